/- HeapPlays, kind 3: is the value a reference, and what is put. -/
import Derived.Test.YtbcoejmiihgfoaaDoorHpF
import Derived.Test.YtbcoejmiihgfoaaDoorHeldL
/-! HeapPlays, kind 3: is the value a reference, and what is put. -/
namespace Go.Proofs.YtbcoejmiihgfoaaDoor
open Go.RowKit

set_option maxRecDepth 1000000 in
set_option maxHeartbeats 16000000 in
theorem hreg27 {w0 : World} {ub pb nl lc i : Nat} {la : Option Addr} {L : HL} {mv : Value} {p : Prg} {cp : Option Addr} {cc : Nat} {lim nur half ask at_ : Int} {ov rv yv tv : Value} {wx : World} {xd ob vb n : Nat} {kd da dby dn dv c : Int} {inn : Bool} {v33 : Value} {f : Nat → Value} {J K' : Act → World → Prop} {Q' : Exit → Act → World → Prop}
  (hC : HpC w0 p cp cc mv pb lim nur half) (hu : Upd [] w0 wx) (hx : wx.heap[xd]? = some (.cells #[.int .i64 kd, .int .i64 da, .int .i64 dby, .int .i64 dn, .int .i64 dv] 45)) (ho : wx.heap[ob]? = some (.cells #[.int .i64 c, .slice (some ⟨vb, 0, none⟩) n n] 51))
  (hc : c < p.cs.length) (hcn : 0 ≤ c → (n : Int) = (p.cs.getD c.toNat ByteArray.empty).size) (hin : inn = true → 0 ≤ dby ∧ dby < n)
  (h25 : f 25 = .pointer (some ⟨xd, 0, none⟩)) (h33 : f 33 = v33) (h34 : f 34 = .pointer (some ⟨ob, 0, none⟩)) (h35 : f 35 = .bool inn)
  (hJ : ∀ a' w', (Upd [] wx w' ∧ ∃ f, a' = hpF lim nur la nl lc ask at_ pb L.hb ub half ov rv yv tv (.int .i64 i) f ∧ (f 25 = .pointer (some ⟨xd, 0, none⟩) ∧ f 33 = v33 ∧ f 35 = .bool inn ∧ f 36 = .bool (inn && letR p.cs c dby))) → J a' w') (hK : ∀ a' w', Go.Met J a' w' → K' a' w') :
  (hpR 27).wp Tryd.prog (Exit.then K' Q') (hpF lim nur la nl lc ask at_ pb L.hb ub half ov rv yv tv (.int .i64 i) f) wx := by
 obtain ⟨c0, _⟩ := cls_slice hC hu
 obtain ⟨cb, co, hcl⟩ := hC.cls
 have hcl := hcl.upd hu (by simp)
 have x2 : wx.cell? ⟨xd, 2, none⟩ = some (.int .i64 dby) := by rw [cell_of hx]; rfl
 have o0 : wx.cell? ⟨ob, 0, none⟩ = some (.int .i64 c) := by rw [cell_of ho]; rfl
 have HJ := Lib.hid hJ
 unfold hpF
 rw [h25, h33, h34, h35]
 conv => arg 2; whnf
 clear h25 h33 h34 h35 hJ hx ho hu hC
 cases inn with
 | false =>
  rw [Bool.false_and] at HJ
  clear hcn hin hcl
  as_aux_lemma =>
   refine wp_region_noPanic ?_
   refine wp_region_L (S := fun W => W.cell? ⟨xd, 2, none⟩ = some (.int .i64 dby) ∧ W.cell? ⟨ob, 0, none⟩ = some (.int .i64 c) ∧ W.cell? ⟨pb, 0, none⟩ = some (.slice cp p.cs.length cc)) 24 (by kernel_rfl) ?_ (fun hHeld => ?_)
   ·first | exact ⟨x2, o0, c0⟩
   refine wpAnyL_takeP (i := 0) [24] (oi := ?_) (v := ?_) ?_ (by kernel_rfl) (by kernel_rfl) (by kernel_rfl) (by kernel_rfl) (fun _ _ _ h => h) (Or.inl ⟨?_, ?_⟩) hHeld ?_
   rotate_left 2
   ·simp only [List.getElem?_toArray, List.getElem?_cons_zero]; rfl
   ·rfl
   ·intro _ hSw; (try dsimp only at hSw); go_simp <;> with_reducible rfl
   (try simp only [Act.put, List.setIfInBounds_toArray, List.set_cons_zero, List.set_cons_succ])
   refine wpAnyL_takeP (i := 1) [24] (oi := ?_) (v := ?_) ?_ (by kernel_rfl) (by kernel_rfl) (by kernel_rfl) (by kernel_rfl) (fun _ _ _ h => h) (Or.inl ⟨?_, ?_⟩) hHeld ?_
   rotate_left 2
   ·simp only [List.getElem?_toArray, List.getElem?_cons_zero, List.getElem?_cons_succ]; rfl
   ·rfl
   ·intro _ hSw; (try dsimp only at hSw); go_simp <;> with_reducible rfl
   (try simp only [Act.put, List.setIfInBounds_toArray, List.set_cons_zero, List.set_cons_succ])
   refine wpAnyL_takeP (i := 2) [24] (oi := ?_) (v := undef) ?_ (by kernel_rfl) (by kernel_rfl) (by kernel_rfl) (by kernel_rfl) (fun _ _ _ h => h) (Or.inr ⟨?_, rfl⟩) hHeld ?_
   rotate_left 1
   ·simp only [List.getElem?_toArray, List.getElem?_cons_zero, List.getElem?_cons_succ]; rfl
   ·rfl
   (try simp only [Act.put, List.setIfInBounds_toArray, List.set_cons_zero, List.set_cons_succ])
   refine wpAnyL_takeP (i := 3) [24] (oi := ?_) (v := undef) ?_ (by kernel_rfl) (by kernel_rfl) (by kernel_rfl) (by kernel_rfl) (fun _ _ _ h => h) (Or.inr ⟨?_, rfl⟩) hHeld ?_
   rotate_left 1
   ·simp only [List.getElem?_toArray, List.getElem?_cons_zero, List.getElem?_cons_succ]; rfl
   ·rfl
   (try simp only [Act.put, List.setIfInBounds_toArray, List.set_cons_zero, List.set_cons_succ])
   refine wpAnyL_takeP (i := 4) [24] (oi := ?_) (v := undef) ?_ (by kernel_rfl) (by kernel_rfl) (by kernel_rfl) (by kernel_rfl) (fun _ _ _ h => h) (Or.inr ⟨?_, rfl⟩) hHeld ?_
   rotate_left 1
   ·simp only [List.getElem?_toArray, List.getElem?_cons_zero, List.getElem?_cons_succ]; rfl
   ·rfl
   (try simp only [Act.put, List.setIfInBounds_toArray, List.set_cons_zero, List.set_cons_succ])
   refine wpAnyL_takeP (i := 5) [24] (oi := ?_) (v := undef) ?_ (by kernel_rfl) (by kernel_rfl) (by kernel_rfl) (by kernel_rfl) (fun _ _ _ h => h) (Or.inr ⟨?_, rfl⟩) hHeld ?_
   rotate_left 1
   ·simp only [List.getElem?_toArray, List.getElem?_cons_zero, List.getElem?_cons_succ]; rfl
   ·rfl
   (try simp only [Act.put, List.setIfInBounds_toArray, List.set_cons_zero, List.set_cons_succ])
   refine wpAnyL_takeP (i := 6) [24] (oi := ?_) (v := undef) ?_ (by kernel_rfl) (by kernel_rfl) (by kernel_rfl) (by kernel_rfl) (fun _ _ _ h => h) (Or.inr ⟨?_, rfl⟩) hHeld ?_
   rotate_left 1
   ·simp only [List.getElem?_toArray, List.getElem?_cons_zero, List.getElem?_cons_succ]; rfl
   ·rfl
   (try simp only [Act.put, List.setIfInBounds_toArray, List.set_cons_zero, List.set_cons_succ])
   refine wpAnyL_takeP (i := 7) [24] (oi := ?_) (v := undef) ?_ (by kernel_rfl) (by kernel_rfl) (by kernel_rfl) (by kernel_rfl) (fun _ _ _ h => h) (Or.inr ⟨?_, rfl⟩) hHeld ?_
   rotate_left 1
   ·simp only [List.getElem?_toArray, List.getElem?_cons_zero, List.getElem?_cons_succ]; rfl
   ·rfl
   (try simp only [Act.put, List.setIfInBounds_toArray, List.set_cons_zero, List.set_cons_succ])
   refine wpAnyL_takeP (i := 8) [24] (oi := ?_) (v := undef) ?_ (by kernel_rfl) (by kernel_rfl) (by kernel_rfl) (by kernel_rfl) (fun _ _ _ h => h) (Or.inr ⟨?_, rfl⟩) hHeld ?_
   rotate_left 1
   ·simp only [List.getElem?_toArray, List.getElem?_cons_zero, List.getElem?_cons_succ]; rfl
   ·rfl
   (try simp only [Act.put, List.setIfInBounds_toArray, List.set_cons_zero, List.set_cons_succ])
   refine wpAnyL_takeP (i := 9) [24] (oi := ?_) (v := undef) ?_ (by kernel_rfl) (by kernel_rfl) (by kernel_rfl) (by kernel_rfl) (fun _ _ _ h => h) (Or.inr ⟨?_, rfl⟩) hHeld ?_
   rotate_left 1
   ·simp only [List.getElem?_toArray, List.getElem?_cons_zero, List.getElem?_cons_succ]; rfl
   ·rfl
   (try simp only [Act.put, List.setIfInBounds_toArray, List.set_cons_zero, List.set_cons_succ])
   refine wpAnyL_takeP (i := 10) [24] (oi := ?_) (v := undef) ?_ (by kernel_rfl) (by kernel_rfl) (by kernel_rfl) (by kernel_rfl) (fun _ _ _ h => h) (Or.inr ⟨?_, rfl⟩) hHeld ?_
   rotate_left 1
   ·simp only [List.getElem?_toArray, List.getElem?_cons_zero, List.getElem?_cons_succ]; rfl
   ·rfl
   (try simp only [Act.put, List.setIfInBounds_toArray, List.set_cons_zero, List.set_cons_succ])
   refine wpAnyL_takeP (i := 11) [24] (oi := ?_) (v := undef) ?_ (by kernel_rfl) (by kernel_rfl) (by kernel_rfl) (by kernel_rfl) (fun _ _ _ h => h) (Or.inr ⟨?_, rfl⟩) hHeld ?_
   rotate_left 1
   ·simp only [List.getElem?_toArray, List.getElem?_cons_zero, List.getElem?_cons_succ]; rfl
   ·rfl
   (try simp only [Act.put, List.setIfInBounds_toArray, List.set_cons_zero, List.set_cons_succ])
   refine wpAnyL_takeP (i := 12) [24] (oi := ?_) (v := undef) ?_ (by kernel_rfl) (by kernel_rfl) (by kernel_rfl) (by kernel_rfl) (fun _ _ _ h => h) (Or.inr ⟨?_, rfl⟩) hHeld ?_
   rotate_left 1
   ·simp only [List.getElem?_toArray, List.getElem?_cons_zero, List.getElem?_cons_succ]; rfl
   ·rfl
   (try simp only [Act.put, List.setIfInBounds_toArray, List.set_cons_zero, List.set_cons_succ])
   refine wpAnyL_takeP (i := 13) [24] (oi := ?_) (v := undef) ?_ (by kernel_rfl) (by kernel_rfl) (by kernel_rfl) (by kernel_rfl) (fun _ _ _ h => h) (Or.inr ⟨?_, rfl⟩) hHeld ?_
   rotate_left 1
   ·simp only [List.getElem?_toArray, List.getElem?_cons_zero, List.getElem?_cons_succ]; rfl
   ·rfl
   (try simp only [Act.put, List.setIfInBounds_toArray, List.set_cons_zero, List.set_cons_succ])
   refine wpAnyL_takeP (i := 14) [24] (oi := ?_) (v := undef) ?_ (by kernel_rfl) (by kernel_rfl) (by kernel_rfl) (by kernel_rfl) (fun _ _ _ h => h) (Or.inr ⟨?_, rfl⟩) hHeld ?_
   rotate_left 1
   ·simp only [List.getElem?_toArray, List.getElem?_cons_zero, List.getElem?_cons_succ]; rfl
   ·rfl
   (try simp only [Act.put, List.setIfInBounds_toArray, List.set_cons_zero, List.set_cons_succ])
   refine wpAnyL_takeP (i := 15) [24] (oi := ?_) (v := undef) ?_ (by kernel_rfl) (by kernel_rfl) (by kernel_rfl) (by kernel_rfl) (fun _ _ _ h => h) (Or.inr ⟨?_, rfl⟩) hHeld ?_
   rotate_left 1
   ·simp only [List.getElem?_toArray, List.getElem?_cons_zero, List.getElem?_cons_succ]; rfl
   ·rfl
   (try simp only [Act.put, List.setIfInBounds_toArray, List.set_cons_zero, List.set_cons_succ])
   refine wpAnyL_takeP (i := 16) [24] (oi := ?_) (v := undef) ?_ (by kernel_rfl) (by kernel_rfl) (by kernel_rfl) (by kernel_rfl) (fun _ _ _ h => h) (Or.inr ⟨?_, rfl⟩) hHeld ?_
   rotate_left 1
   ·simp only [List.getElem?_toArray, List.getElem?_cons_zero, List.getElem?_cons_succ]; rfl
   ·rfl
   (try simp only [Act.put, List.setIfInBounds_toArray, List.set_cons_zero, List.set_cons_succ])
   refine wpAnyL_takeP (i := 17) [24] (oi := ?_) (v := undef) ?_ (by kernel_rfl) (by kernel_rfl) (by kernel_rfl) (by kernel_rfl) (fun _ _ _ h => h) (Or.inr ⟨?_, rfl⟩) hHeld ?_
   rotate_left 1
   ·simp only [List.getElem?_toArray, List.getElem?_cons_zero, List.getElem?_cons_succ]; rfl
   ·rfl
   (try simp only [Act.put, List.setIfInBounds_toArray, List.set_cons_zero, List.set_cons_succ])
   refine wpAnyL_takeP (i := 18) [24] (oi := ?_) (v := undef) ?_ (by kernel_rfl) (by kernel_rfl) (by kernel_rfl) (by kernel_rfl) (fun _ _ _ h => h) (Or.inr ⟨?_, rfl⟩) hHeld ?_
   rotate_left 1
   ·simp only [List.getElem?_toArray, List.getElem?_cons_zero, List.getElem?_cons_succ]; rfl
   ·rfl
   (try simp only [Act.put, List.setIfInBounds_toArray, List.set_cons_zero, List.set_cons_succ])
   refine wpAnyL_takeP (i := 19) [24] (oi := ?_) (v := undef) ?_ (by kernel_rfl) (by kernel_rfl) (by kernel_rfl) (by kernel_rfl) (fun _ _ _ h => h) (Or.inr ⟨?_, rfl⟩) hHeld ?_
   rotate_left 1
   ·simp only [List.getElem?_toArray, List.getElem?_cons_zero, List.getElem?_cons_succ]; rfl
   ·rfl
   (try simp only [Act.put, List.setIfInBounds_toArray, List.set_cons_zero, List.set_cons_succ])
   refine wpAnyL_takeP (i := 20) [24] (oi := ?_) (v := undef) ?_ (by kernel_rfl) (by kernel_rfl) (by kernel_rfl) (by kernel_rfl) (fun _ _ _ h => h) (Or.inr ⟨?_, rfl⟩) hHeld ?_
   rotate_left 1
   ·simp only [List.getElem?_toArray, List.getElem?_cons_zero, List.getElem?_cons_succ]; rfl
   ·rfl
   (try simp only [Act.put, List.setIfInBounds_toArray, List.set_cons_zero, List.set_cons_succ])
   refine wpAnyL_takeP (i := 21) [24] (oi := ?_) (v := undef) ?_ (by kernel_rfl) (by kernel_rfl) (by kernel_rfl) (by kernel_rfl) (fun _ _ _ h => h) (Or.inr ⟨?_, rfl⟩) hHeld ?_
   rotate_left 1
   ·simp only [List.getElem?_toArray, List.getElem?_cons_zero, List.getElem?_cons_succ]; rfl
   ·rfl
   (try simp only [Act.put, List.setIfInBounds_toArray, List.set_cons_zero, List.set_cons_succ])
   refine wpAnyL_takeP (i := 22) [24] (oi := ?_) (v := undef) ?_ (by kernel_rfl) (by kernel_rfl) (by kernel_rfl) (by kernel_rfl) (fun _ _ _ h => h) (Or.inr ⟨?_, rfl⟩) hHeld ?_
   rotate_left 1
   ·simp only [List.getElem?_toArray, List.getElem?_cons_zero, List.getElem?_cons_succ]; rfl
   ·rfl
   (try simp only [Act.put, List.setIfInBounds_toArray, List.set_cons_zero, List.set_cons_succ])
   refine wpAnyL_takeP (i := 23) [24] (oi := ?_) (v := ?_) ?_ (by kernel_rfl) (by kernel_rfl) (by kernel_rfl) (by kernel_rfl) (fun _ _ _ h => h) (Or.inl ⟨?_, ?_⟩) hHeld ?_
   rotate_left 2
   ·simp only [List.getElem?_toArray, List.getElem?_cons_zero, List.getElem?_cons_succ]; rfl
   ·rfl
   ·intro _ hSw; (try dsimp only at hSw); go_simp <;> with_reducible rfl
   (try simp only [Act.put, List.setIfInBounds_toArray, List.set_cons_zero, List.set_cons_succ])
   refine wpAnyL_last (o := ?_) (by kernel_rfl) ?_ (fun K hK => ?_)
   rotate_left 1
   ·simp only [List.getElem?_toArray, List.getElem?_cons_zero, List.getElem?_cons_succ]; rfl
   clear hHeld
   go_simp
   refine hK.out _ _ ?_
   clear hK K
   (try simp only [Act.put, List.setIfInBounds_toArray, List.set_cons_zero, List.set_cons_succ])
   refine wpAnyL_done (by kernel_rfl) ?_ _
   refine NoPanic.normal ?_
   exact hK _ _ (Go.Met.intro (HJ.out _ _ ⟨(Upd.refl [] _).drew, hpF_eqP _ (by kernel_rfl) ⟨rfl, rfl, rfl, rfl⟩⟩))
 | true =>
  rw [Bool.true_and] at HJ
  obtain ⟨hi0, hi1⟩ := hin rfl
  clear hin
  by_cases e2 : c = -2
  ·have hl : letR p.cs c dby = true := by unfold letR; rw [decide_eq_true e2]; rfl
   rw [hl] at HJ
   subst e2
   clear hl hcn hcl
   as_aux_lemma =>
    refine wp_region_noPanic ?_
    refine wp_region_L (S := fun W => W.cell? ⟨xd, 2, none⟩ = some (.int .i64 dby) ∧ W.cell? ⟨ob, 0, none⟩ = some (.int .i64 (-2)) ∧ W.cell? ⟨pb, 0, none⟩ = some (.slice cp p.cs.length cc)) 24 (by kernel_rfl) ?_ (fun hHeld => ?_)
    ·first | exact ⟨x2, o0, c0⟩
    refine wpAnyL_takeP (i := 0) [24] (oi := ?_) (v := ?_) ?_ (by kernel_rfl) (by kernel_rfl) (by kernel_rfl) (by kernel_rfl) (fun _ _ _ h => h) (Or.inl ⟨?_, ?_⟩) hHeld ?_
    rotate_left 2
    ·simp only [List.getElem?_toArray, List.getElem?_cons_zero]; rfl
    ·rfl
    ·intro _ hSw; (try dsimp only at hSw); go_simp <;> with_reducible rfl
    (try simp only [Act.put, List.setIfInBounds_toArray, List.set_cons_zero, List.set_cons_succ])
    refine wpAnyL_takeP (i := 1) [24] (oi := ?_) (v := ?_) ?_ (by kernel_rfl) (by kernel_rfl) (by kernel_rfl) (by kernel_rfl) (fun _ _ _ h => h) (Or.inl ⟨?_, ?_⟩) hHeld ?_
    rotate_left 2
    ·simp only [List.getElem?_toArray, List.getElem?_cons_zero, List.getElem?_cons_succ]; rfl
    ·rfl
    ·intro _ hSw; (try dsimp only at hSw); go_simp <;> with_reducible rfl
    (try simp only [Act.put, List.setIfInBounds_toArray, List.set_cons_zero, List.set_cons_succ])
    refine wpAnyL_takeP (i := 2) [24] (oi := ?_) (v := ?_) ?_ (by kernel_rfl) (by kernel_rfl) (by kernel_rfl) (by kernel_rfl) (fun _ _ _ h => h) (Or.inl ⟨?_, ?_⟩) hHeld ?_
    rotate_left 2
    ·simp only [List.getElem?_toArray, List.getElem?_cons_zero, List.getElem?_cons_succ]; rfl
    ·rfl
    ·intro _ hSw; (try dsimp only at hSw); go_simp <;> with_reducible rfl
    (try simp only [Act.put, List.setIfInBounds_toArray, List.set_cons_zero, List.set_cons_succ])
    refine wpAnyL_takeP (i := 3) [24] (oi := ?_) (v := ?_) ?_ (by kernel_rfl) (by kernel_rfl) (by kernel_rfl) (by kernel_rfl) (fun _ _ _ h => h) (Or.inl ⟨?_, ?_⟩) hHeld ?_
    rotate_left 2
    ·simp only [List.getElem?_toArray, List.getElem?_cons_zero, List.getElem?_cons_succ]; rfl
    ·rfl
    ·intro _ hSw; (try dsimp only at hSw); go_simp <;> with_reducible rfl
    (try simp only [Act.put, List.setIfInBounds_toArray, List.set_cons_zero, List.set_cons_succ])
    refine wpAnyL_takeP (i := 4) [24] (oi := ?_) (v := ?_) ?_ (by kernel_rfl) (by kernel_rfl) (by kernel_rfl) (by kernel_rfl) (fun _ _ _ h => h) (Or.inl ⟨?_, ?_⟩) hHeld ?_
    rotate_left 2
    ·simp only [List.getElem?_toArray, List.getElem?_cons_zero, List.getElem?_cons_succ]; rfl
    ·rfl
    ·intro _ hSw; (try dsimp only at hSw); go_simp <;> with_reducible rfl
    (try simp only [Act.put, List.setIfInBounds_toArray, List.set_cons_zero, List.set_cons_succ])
    refine wpAnyL_takeP (i := 5) [24] (oi := ?_) (v := ?_) ?_ (by kernel_rfl) (by kernel_rfl) (by kernel_rfl) (by kernel_rfl) (fun _ _ _ h => h) (Or.inl ⟨?_, ?_⟩) hHeld ?_
    rotate_left 2
    ·simp only [List.getElem?_toArray, List.getElem?_cons_zero, List.getElem?_cons_succ]; rfl
    ·rfl
    ·intro _ hSw; (try dsimp only at hSw); go_simp <;> with_reducible rfl
    (try simp only [Act.put, List.setIfInBounds_toArray, List.set_cons_zero, List.set_cons_succ])
    refine wpAnyL_takeP (i := 6) [24] (oi := ?_) (v := undef) ?_ (by kernel_rfl) (by kernel_rfl) (by kernel_rfl) (by kernel_rfl) (fun _ _ _ h => h) (Or.inr ⟨?_, rfl⟩) hHeld ?_
    rotate_left 1
    ·simp only [List.getElem?_toArray, List.getElem?_cons_zero, List.getElem?_cons_succ]; rfl
    ·rfl
    (try simp only [Act.put, List.setIfInBounds_toArray, List.set_cons_zero, List.set_cons_succ])
    refine wpAnyL_takeP (i := 7) [24] (oi := ?_) (v := undef) ?_ (by kernel_rfl) (by kernel_rfl) (by kernel_rfl) (by kernel_rfl) (fun _ _ _ h => h) (Or.inr ⟨?_, rfl⟩) hHeld ?_
    rotate_left 1
    ·simp only [List.getElem?_toArray, List.getElem?_cons_zero, List.getElem?_cons_succ]; rfl
    ·rfl
    (try simp only [Act.put, List.setIfInBounds_toArray, List.set_cons_zero, List.set_cons_succ])
    refine wpAnyL_takeP (i := 8) [24] (oi := ?_) (v := undef) ?_ (by kernel_rfl) (by kernel_rfl) (by kernel_rfl) (by kernel_rfl) (fun _ _ _ h => h) (Or.inr ⟨?_, rfl⟩) hHeld ?_
    rotate_left 1
    ·simp only [List.getElem?_toArray, List.getElem?_cons_zero, List.getElem?_cons_succ]; rfl
    ·rfl
    (try simp only [Act.put, List.setIfInBounds_toArray, List.set_cons_zero, List.set_cons_succ])
    refine wpAnyL_takeP (i := 9) [24] (oi := ?_) (v := undef) ?_ (by kernel_rfl) (by kernel_rfl) (by kernel_rfl) (by kernel_rfl) (fun _ _ _ h => h) (Or.inr ⟨?_, rfl⟩) hHeld ?_
    rotate_left 1
    ·simp only [List.getElem?_toArray, List.getElem?_cons_zero, List.getElem?_cons_succ]; rfl
    ·rfl
    (try simp only [Act.put, List.setIfInBounds_toArray, List.set_cons_zero, List.set_cons_succ])
    refine wpAnyL_takeP (i := 10) [24] (oi := ?_) (v := undef) ?_ (by kernel_rfl) (by kernel_rfl) (by kernel_rfl) (by kernel_rfl) (fun _ _ _ h => h) (Or.inr ⟨?_, rfl⟩) hHeld ?_
    rotate_left 1
    ·simp only [List.getElem?_toArray, List.getElem?_cons_zero, List.getElem?_cons_succ]; rfl
    ·rfl
    (try simp only [Act.put, List.setIfInBounds_toArray, List.set_cons_zero, List.set_cons_succ])
    refine wpAnyL_takeP (i := 11) [24] (oi := ?_) (v := undef) ?_ (by kernel_rfl) (by kernel_rfl) (by kernel_rfl) (by kernel_rfl) (fun _ _ _ h => h) (Or.inr ⟨?_, rfl⟩) hHeld ?_
    rotate_left 1
    ·simp only [List.getElem?_toArray, List.getElem?_cons_zero, List.getElem?_cons_succ]; rfl
    ·rfl
    (try simp only [Act.put, List.setIfInBounds_toArray, List.set_cons_zero, List.set_cons_succ])
    refine wpAnyL_takeP (i := 12) [24] (oi := ?_) (v := undef) ?_ (by kernel_rfl) (by kernel_rfl) (by kernel_rfl) (by kernel_rfl) (fun _ _ _ h => h) (Or.inr ⟨?_, rfl⟩) hHeld ?_
    rotate_left 1
    ·simp only [List.getElem?_toArray, List.getElem?_cons_zero, List.getElem?_cons_succ]; rfl
    ·rfl
    (try simp only [Act.put, List.setIfInBounds_toArray, List.set_cons_zero, List.set_cons_succ])
    refine wpAnyL_takeP (i := 13) [24] (oi := ?_) (v := undef) ?_ (by kernel_rfl) (by kernel_rfl) (by kernel_rfl) (by kernel_rfl) (fun _ _ _ h => h) (Or.inr ⟨?_, rfl⟩) hHeld ?_
    rotate_left 1
    ·simp only [List.getElem?_toArray, List.getElem?_cons_zero, List.getElem?_cons_succ]; rfl
    ·rfl
    (try simp only [Act.put, List.setIfInBounds_toArray, List.set_cons_zero, List.set_cons_succ])
    refine wpAnyL_takeP (i := 14) [24] (oi := ?_) (v := undef) ?_ (by kernel_rfl) (by kernel_rfl) (by kernel_rfl) (by kernel_rfl) (fun _ _ _ h => h) (Or.inr ⟨?_, rfl⟩) hHeld ?_
    rotate_left 1
    ·simp only [List.getElem?_toArray, List.getElem?_cons_zero, List.getElem?_cons_succ]; rfl
    ·rfl
    (try simp only [Act.put, List.setIfInBounds_toArray, List.set_cons_zero, List.set_cons_succ])
    refine wpAnyL_takeP (i := 15) [24] (oi := ?_) (v := undef) ?_ (by kernel_rfl) (by kernel_rfl) (by kernel_rfl) (by kernel_rfl) (fun _ _ _ h => h) (Or.inr ⟨?_, rfl⟩) hHeld ?_
    rotate_left 1
    ·simp only [List.getElem?_toArray, List.getElem?_cons_zero, List.getElem?_cons_succ]; rfl
    ·rfl
    (try simp only [Act.put, List.setIfInBounds_toArray, List.set_cons_zero, List.set_cons_succ])
    refine wpAnyL_takeP (i := 16) [24] (oi := ?_) (v := undef) ?_ (by kernel_rfl) (by kernel_rfl) (by kernel_rfl) (by kernel_rfl) (fun _ _ _ h => h) (Or.inr ⟨?_, rfl⟩) hHeld ?_
    rotate_left 1
    ·simp only [List.getElem?_toArray, List.getElem?_cons_zero, List.getElem?_cons_succ]; rfl
    ·rfl
    (try simp only [Act.put, List.setIfInBounds_toArray, List.set_cons_zero, List.set_cons_succ])
    refine wpAnyL_takeP (i := 17) [24] (oi := ?_) (v := undef) ?_ (by kernel_rfl) (by kernel_rfl) (by kernel_rfl) (by kernel_rfl) (fun _ _ _ h => h) (Or.inr ⟨?_, rfl⟩) hHeld ?_
    rotate_left 1
    ·simp only [List.getElem?_toArray, List.getElem?_cons_zero, List.getElem?_cons_succ]; rfl
    ·rfl
    (try simp only [Act.put, List.setIfInBounds_toArray, List.set_cons_zero, List.set_cons_succ])
    refine wpAnyL_takeP (i := 18) [24] (oi := ?_) (v := undef) ?_ (by kernel_rfl) (by kernel_rfl) (by kernel_rfl) (by kernel_rfl) (fun _ _ _ h => h) (Or.inr ⟨?_, rfl⟩) hHeld ?_
    rotate_left 1
    ·simp only [List.getElem?_toArray, List.getElem?_cons_zero, List.getElem?_cons_succ]; rfl
    ·rfl
    (try simp only [Act.put, List.setIfInBounds_toArray, List.set_cons_zero, List.set_cons_succ])
    refine wpAnyL_takeP (i := 19) [24] (oi := ?_) (v := undef) ?_ (by kernel_rfl) (by kernel_rfl) (by kernel_rfl) (by kernel_rfl) (fun _ _ _ h => h) (Or.inr ⟨?_, rfl⟩) hHeld ?_
    rotate_left 1
    ·simp only [List.getElem?_toArray, List.getElem?_cons_zero, List.getElem?_cons_succ]; rfl
    ·rfl
    (try simp only [Act.put, List.setIfInBounds_toArray, List.set_cons_zero, List.set_cons_succ])
    refine wpAnyL_takeP (i := 20) [24] (oi := ?_) (v := undef) ?_ (by kernel_rfl) (by kernel_rfl) (by kernel_rfl) (by kernel_rfl) (fun _ _ _ h => h) (Or.inr ⟨?_, rfl⟩) hHeld ?_
    rotate_left 1
    ·simp only [List.getElem?_toArray, List.getElem?_cons_zero, List.getElem?_cons_succ]; rfl
    ·rfl
    (try simp only [Act.put, List.setIfInBounds_toArray, List.set_cons_zero, List.set_cons_succ])
    refine wpAnyL_takeP (i := 21) [24] (oi := ?_) (v := undef) ?_ (by kernel_rfl) (by kernel_rfl) (by kernel_rfl) (by kernel_rfl) (fun _ _ _ h => h) (Or.inr ⟨?_, rfl⟩) hHeld ?_
    rotate_left 1
    ·simp only [List.getElem?_toArray, List.getElem?_cons_zero, List.getElem?_cons_succ]; rfl
    ·rfl
    (try simp only [Act.put, List.setIfInBounds_toArray, List.set_cons_zero, List.set_cons_succ])
    refine wpAnyL_takeP (i := 22) [24] (oi := ?_) (v := ?_) ?_ (by kernel_rfl) (by kernel_rfl) (by kernel_rfl) (by kernel_rfl) (fun _ _ _ h => h) (Or.inl ⟨?_, ?_⟩) hHeld ?_
    rotate_left 2
    ·simp only [List.getElem?_toArray, List.getElem?_cons_zero, List.getElem?_cons_succ]; rfl
    ·rfl
    ·intro _ hSw; (try dsimp only at hSw); go_simp <;> with_reducible rfl
    (try simp only [Act.put, List.setIfInBounds_toArray, List.set_cons_zero, List.set_cons_succ])
    refine wpAnyL_takeP (i := 23) [24] (oi := ?_) (v := ?_) ?_ (by kernel_rfl) (by kernel_rfl) (by kernel_rfl) (by kernel_rfl) (fun _ _ _ h => h) (Or.inl ⟨?_, ?_⟩) hHeld ?_
    rotate_left 2
    ·simp only [List.getElem?_toArray, List.getElem?_cons_zero, List.getElem?_cons_succ]; rfl
    ·rfl
    ·intro _ hSw; (try dsimp only at hSw); go_simp <;> with_reducible rfl
    (try simp only [Act.put, List.setIfInBounds_toArray, List.set_cons_zero, List.set_cons_succ])
    refine wpAnyL_last (o := ?_) (by kernel_rfl) ?_ (fun K hK => ?_)
    rotate_left 1
    ·simp only [List.getElem?_toArray, List.getElem?_cons_zero, List.getElem?_cons_succ]; rfl
    clear hHeld
    go_simp
    refine hK.out _ _ ?_
    clear hK K
    (try simp only [Act.put, List.setIfInBounds_toArray, List.set_cons_zero, List.set_cons_succ])
    refine wpAnyL_done (by kernel_rfl) ?_ _
    refine NoPanic.normal ?_
    exact hK _ _ (Go.Met.intro (HJ.out _ _ ⟨(Upd.refl [] _).drew, hpF_eqP _ (by kernel_rfl) ⟨rfl, rfl, rfl, rfl⟩⟩))
  ·have g2 : (c == -2) = false := beq_eq_false_iff_ne.2 e2
   by_cases e3 : 0 ≤ c
   ·obtain ⟨k, rfl⟩ := Int.eq_ofNat_of_zero_le e3
    obtain ⟨j, rfl⟩ := Int.eq_ofNat_of_zero_le hi0
    have hk : k < p.cs.length := by omega
    have hcn := hcn e3
    rw [Int.toNat_natCast] at hcn
    have hjs : j < (p.cs.getD k ByteArray.empty).size := by omega
    have hl : letR p.cs (k : Int) (j : Int) = decide ((p.cs.getD k ByteArray.empty).get! j = 82) := by
     unfold letR
     rw [decide_eq_false e2, decide_eq_true e3, Int.toNat_natCast, Int.toNat_natCast]; rfl
    have hby := byte_eq (p.cs.getD k ByteArray.empty) j 82 hjs
    rw [hl, ← hby] at HJ
    have g3 : decide (0 ≤ (k : Int)) = true := decide_eq_true e3
    have hcc := hcl.2 k hk
    have hkp : (k : Int) < (p.cs.length : Int) := hc
    obtain ⟨x, cap, hxx, hx2⟩ := hcl.1.resolve_left (fun e => by rw [e.2] at hk; simp at hk)
    injection hxx with hx3 _ hx4
    subst hx3
    have hxb := hx2.resolve_left (fun e => by rw [e] at hk; simp at hk)
    subst hxb
    clear hl hcn hcl hc hx2 hx4 hby
    generalize p.cs.getD k ByteArray.empty = s at *
    have d0 : decide ((j : Int) < (s.size : Int)) = true := decide_eq_true (by omega)
    have hj1 : (j : Int) < (s.size : Int) := by omega
    as_aux_lemma =>
     go_quiet (fail)
     exact hK _ _ (Go.Met.intro (HJ.out _ _ ⟨(Upd.refl [] _).drewN _, hpF_eqP _ (by kernel_rfl) ⟨rfl, rfl, rfl, rfl⟩⟩))
   ·have g3 : decide (0 ≤ c) = false := decide_eq_false e3
    have hl : letR p.cs c dby = false := by
     unfold letR
     rw [decide_eq_false e2, g3]; rfl
    rw [hl] at HJ
    clear hl hcn hcl
    as_aux_lemma =>
     refine wp_region_noPanic ?_
     refine wp_region_L (S := fun W => W.cell? ⟨xd, 2, none⟩ = some (.int .i64 dby) ∧ W.cell? ⟨ob, 0, none⟩ = some (.int .i64 c) ∧ W.cell? ⟨pb, 0, none⟩ = some (.slice cp p.cs.length cc)) 24 (by kernel_rfl) ?_ (fun hHeld => ?_)
     ·first | exact ⟨x2, o0, c0⟩
     refine wpAnyL_takeP (i := 0) [24] (oi := ?_) (v := ?_) ?_ (by kernel_rfl) (by kernel_rfl) (by kernel_rfl) (by kernel_rfl) (fun _ _ _ h => h) (Or.inl ⟨?_, ?_⟩) hHeld ?_
     rotate_left 2
     ·simp only [List.getElem?_toArray, List.getElem?_cons_zero]; rfl
     ·rfl
     ·intro _ hSw; (try dsimp only at hSw); go_simp <;> with_reducible rfl
     (try simp only [Act.put, List.setIfInBounds_toArray, List.set_cons_zero, List.set_cons_succ])
     refine wpAnyL_takeP (i := 1) [24] (oi := ?_) (v := ?_) ?_ (by kernel_rfl) (by kernel_rfl) (by kernel_rfl) (by kernel_rfl) (fun _ _ _ h => h) (Or.inl ⟨?_, ?_⟩) hHeld ?_
     rotate_left 2
     ·simp only [List.getElem?_toArray, List.getElem?_cons_zero, List.getElem?_cons_succ]; rfl
     ·rfl
     ·intro _ hSw; (try dsimp only at hSw); go_simp <;> with_reducible rfl
     (try simp only [Act.put, List.setIfInBounds_toArray, List.set_cons_zero, List.set_cons_succ])
     refine wpAnyL_takeP (i := 2) [24] (oi := ?_) (v := ?_) ?_ (by kernel_rfl) (by kernel_rfl) (by kernel_rfl) (by kernel_rfl) (fun _ _ _ h => h) (Or.inl ⟨?_, ?_⟩) hHeld ?_
     rotate_left 2
     ·simp only [List.getElem?_toArray, List.getElem?_cons_zero, List.getElem?_cons_succ]; rfl
     ·rfl
     ·intro _ hSw; (try dsimp only at hSw); go_simp <;> with_reducible rfl
     (try simp only [Act.put, List.setIfInBounds_toArray, List.set_cons_zero, List.set_cons_succ])
     refine wpAnyL_takeP (i := 3) [24] (oi := ?_) (v := ?_) ?_ (by kernel_rfl) (by kernel_rfl) (by kernel_rfl) (by kernel_rfl) (fun _ _ _ h => h) (Or.inl ⟨?_, ?_⟩) hHeld ?_
     rotate_left 2
     ·simp only [List.getElem?_toArray, List.getElem?_cons_zero, List.getElem?_cons_succ]; rfl
     ·rfl
     ·intro _ hSw; (try dsimp only at hSw); go_simp <;> with_reducible rfl
     (try simp only [Act.put, List.setIfInBounds_toArray, List.set_cons_zero, List.set_cons_succ])
     refine wpAnyL_takeP (i := 4) [24] (oi := ?_) (v := ?_) ?_ (by kernel_rfl) (by kernel_rfl) (by kernel_rfl) (by kernel_rfl) (fun _ _ _ h => h) (Or.inl ⟨?_, ?_⟩) hHeld ?_
     rotate_left 2
     ·simp only [List.getElem?_toArray, List.getElem?_cons_zero, List.getElem?_cons_succ]; rfl
     ·rfl
     ·intro _ hSw; (try dsimp only at hSw); go_simp <;> with_reducible rfl
     (try simp only [Act.put, List.setIfInBounds_toArray, List.set_cons_zero, List.set_cons_succ])
     refine wpAnyL_takeP (i := 5) [24] (oi := ?_) (v := ?_) ?_ (by kernel_rfl) (by kernel_rfl) (by kernel_rfl) (by kernel_rfl) (fun _ _ _ h => h) (Or.inl ⟨?_, ?_⟩) hHeld ?_
     rotate_left 2
     ·simp only [List.getElem?_toArray, List.getElem?_cons_zero, List.getElem?_cons_succ]; rfl
     ·rfl
     ·intro _ hSw; (try dsimp only at hSw); go_simp <;> with_reducible rfl
     (try simp only [Act.put, List.setIfInBounds_toArray, List.set_cons_zero, List.set_cons_succ])
     refine wpAnyL_takeP (i := 6) [24] (oi := ?_) (v := ?_) ?_ (by kernel_rfl) (by kernel_rfl) (by kernel_rfl) (by kernel_rfl) (fun _ _ _ h => h) (Or.inl ⟨?_, ?_⟩) hHeld ?_
     rotate_left 2
     ·simp only [List.getElem?_toArray, List.getElem?_cons_zero, List.getElem?_cons_succ]; rfl
     ·rfl
     ·intro _ hSw; (try dsimp only at hSw); go_simp <;> with_reducible rfl
     (try simp only [Act.put, List.setIfInBounds_toArray, List.set_cons_zero, List.set_cons_succ])
     refine wpAnyL_takeP (i := 7) [24] (oi := ?_) (v := ?_) ?_ (by kernel_rfl) (by kernel_rfl) (by kernel_rfl) (by kernel_rfl) (fun _ _ _ h => h) (Or.inl ⟨?_, ?_⟩) hHeld ?_
     rotate_left 2
     ·simp only [List.getElem?_toArray, List.getElem?_cons_zero, List.getElem?_cons_succ]; rfl
     ·rfl
     ·intro _ hSw; (try dsimp only at hSw); go_simp <;> with_reducible rfl
     (try simp only [Act.put, List.setIfInBounds_toArray, List.set_cons_zero, List.set_cons_succ])
     refine wpAnyL_takeP (i := 8) [24] (oi := ?_) (v := ?_) ?_ (by kernel_rfl) (by kernel_rfl) (by kernel_rfl) (by kernel_rfl) (fun _ _ _ h => h) (Or.inl ⟨?_, ?_⟩) hHeld ?_
     rotate_left 2
     ·simp only [List.getElem?_toArray, List.getElem?_cons_zero, List.getElem?_cons_succ]; rfl
     ·rfl
     ·intro _ hSw; (try dsimp only at hSw); go_simp <;> with_reducible rfl
     (try simp only [Act.put, List.setIfInBounds_toArray, List.set_cons_zero, List.set_cons_succ])
     refine wpAnyL_takeP (i := 9) [24] (oi := ?_) (v := ?_) ?_ (by kernel_rfl) (by kernel_rfl) (by kernel_rfl) (by kernel_rfl) (fun _ _ _ h => h) (Or.inl ⟨?_, ?_⟩) hHeld ?_
     rotate_left 2
     ·simp only [List.getElem?_toArray, List.getElem?_cons_zero, List.getElem?_cons_succ]; rfl
     ·rfl
     ·intro _ hSw; (try dsimp only at hSw); go_simp <;> with_reducible rfl
     (try simp only [Act.put, List.setIfInBounds_toArray, List.set_cons_zero, List.set_cons_succ])
     refine wpAnyL_takeP (i := 10) [24] (oi := ?_) (v := undef) ?_ (by kernel_rfl) (by kernel_rfl) (by kernel_rfl) (by kernel_rfl) (fun _ _ _ h => h) (Or.inr ⟨?_, rfl⟩) hHeld ?_
     rotate_left 1
     ·simp only [List.getElem?_toArray, List.getElem?_cons_zero, List.getElem?_cons_succ]; rfl
     ·rfl
     (try simp only [Act.put, List.setIfInBounds_toArray, List.set_cons_zero, List.set_cons_succ])
     refine wpAnyL_takeP (i := 11) [24] (oi := ?_) (v := undef) ?_ (by kernel_rfl) (by kernel_rfl) (by kernel_rfl) (by kernel_rfl) (fun _ _ _ h => h) (Or.inr ⟨?_, rfl⟩) hHeld ?_
     rotate_left 1
     ·simp only [List.getElem?_toArray, List.getElem?_cons_zero, List.getElem?_cons_succ]; rfl
     ·rfl
     (try simp only [Act.put, List.setIfInBounds_toArray, List.set_cons_zero, List.set_cons_succ])
     refine wpAnyL_takeP (i := 12) [24] (oi := ?_) (v := undef) ?_ (by kernel_rfl) (by kernel_rfl) (by kernel_rfl) (by kernel_rfl) (fun _ _ _ h => h) (Or.inr ⟨?_, rfl⟩) hHeld ?_
     rotate_left 1
     ·simp only [List.getElem?_toArray, List.getElem?_cons_zero, List.getElem?_cons_succ]; rfl
     ·rfl
     (try simp only [Act.put, List.setIfInBounds_toArray, List.set_cons_zero, List.set_cons_succ])
     refine wpAnyL_takeP (i := 13) [24] (oi := ?_) (v := undef) ?_ (by kernel_rfl) (by kernel_rfl) (by kernel_rfl) (by kernel_rfl) (fun _ _ _ h => h) (Or.inr ⟨?_, rfl⟩) hHeld ?_
     rotate_left 1
     ·simp only [List.getElem?_toArray, List.getElem?_cons_zero, List.getElem?_cons_succ]; rfl
     ·rfl
     (try simp only [Act.put, List.setIfInBounds_toArray, List.set_cons_zero, List.set_cons_succ])
     refine wpAnyL_takeP (i := 14) [24] (oi := ?_) (v := undef) ?_ (by kernel_rfl) (by kernel_rfl) (by kernel_rfl) (by kernel_rfl) (fun _ _ _ h => h) (Or.inr ⟨?_, rfl⟩) hHeld ?_
     rotate_left 1
     ·simp only [List.getElem?_toArray, List.getElem?_cons_zero, List.getElem?_cons_succ]; rfl
     ·rfl
     (try simp only [Act.put, List.setIfInBounds_toArray, List.set_cons_zero, List.set_cons_succ])
     refine wpAnyL_takeP (i := 15) [24] (oi := ?_) (v := undef) ?_ (by kernel_rfl) (by kernel_rfl) (by kernel_rfl) (by kernel_rfl) (fun _ _ _ h => h) (Or.inr ⟨?_, rfl⟩) hHeld ?_
     rotate_left 1
     ·simp only [List.getElem?_toArray, List.getElem?_cons_zero, List.getElem?_cons_succ]; rfl
     ·rfl
     (try simp only [Act.put, List.setIfInBounds_toArray, List.set_cons_zero, List.set_cons_succ])
     refine wpAnyL_takeP (i := 16) [24] (oi := ?_) (v := undef) ?_ (by kernel_rfl) (by kernel_rfl) (by kernel_rfl) (by kernel_rfl) (fun _ _ _ h => h) (Or.inr ⟨?_, rfl⟩) hHeld ?_
     rotate_left 1
     ·simp only [List.getElem?_toArray, List.getElem?_cons_zero, List.getElem?_cons_succ]; rfl
     ·rfl
     (try simp only [Act.put, List.setIfInBounds_toArray, List.set_cons_zero, List.set_cons_succ])
     refine wpAnyL_takeP (i := 17) [24] (oi := ?_) (v := undef) ?_ (by kernel_rfl) (by kernel_rfl) (by kernel_rfl) (by kernel_rfl) (fun _ _ _ h => h) (Or.inr ⟨?_, rfl⟩) hHeld ?_
     rotate_left 1
     ·simp only [List.getElem?_toArray, List.getElem?_cons_zero, List.getElem?_cons_succ]; rfl
     ·rfl
     (try simp only [Act.put, List.setIfInBounds_toArray, List.set_cons_zero, List.set_cons_succ])
     refine wpAnyL_takeP (i := 18) [24] (oi := ?_) (v := undef) ?_ (by kernel_rfl) (by kernel_rfl) (by kernel_rfl) (by kernel_rfl) (fun _ _ _ h => h) (Or.inr ⟨?_, rfl⟩) hHeld ?_
     rotate_left 1
     ·simp only [List.getElem?_toArray, List.getElem?_cons_zero, List.getElem?_cons_succ]; rfl
     ·rfl
     (try simp only [Act.put, List.setIfInBounds_toArray, List.set_cons_zero, List.set_cons_succ])
     refine wpAnyL_takeP (i := 19) [24] (oi := ?_) (v := undef) ?_ (by kernel_rfl) (by kernel_rfl) (by kernel_rfl) (by kernel_rfl) (fun _ _ _ h => h) (Or.inr ⟨?_, rfl⟩) hHeld ?_
     rotate_left 1
     ·simp only [List.getElem?_toArray, List.getElem?_cons_zero, List.getElem?_cons_succ]; rfl
     ·rfl
     (try simp only [Act.put, List.setIfInBounds_toArray, List.set_cons_zero, List.set_cons_succ])
     refine wpAnyL_takeP (i := 20) [24] (oi := ?_) (v := undef) ?_ (by kernel_rfl) (by kernel_rfl) (by kernel_rfl) (by kernel_rfl) (fun _ _ _ h => h) (Or.inr ⟨?_, rfl⟩) hHeld ?_
     rotate_left 1
     ·simp only [List.getElem?_toArray, List.getElem?_cons_zero, List.getElem?_cons_succ]; rfl
     ·rfl
     (try simp only [Act.put, List.setIfInBounds_toArray, List.set_cons_zero, List.set_cons_succ])
     refine wpAnyL_takeP (i := 21) [24] (oi := ?_) (v := ?_) ?_ (by kernel_rfl) (by kernel_rfl) (by kernel_rfl) (by kernel_rfl) (fun _ _ _ h => h) (Or.inl ⟨?_, ?_⟩) hHeld ?_
     rotate_left 2
     ·simp only [List.getElem?_toArray, List.getElem?_cons_zero, List.getElem?_cons_succ]; rfl
     ·rfl
     ·intro _ hSw; (try dsimp only at hSw); go_simp <;> with_reducible rfl
     (try simp only [Act.put, List.setIfInBounds_toArray, List.set_cons_zero, List.set_cons_succ])
     refine wpAnyL_takeP (i := 22) [24] (oi := ?_) (v := ?_) ?_ (by kernel_rfl) (by kernel_rfl) (by kernel_rfl) (by kernel_rfl) (fun _ _ _ h => h) (Or.inl ⟨?_, ?_⟩) hHeld ?_
     rotate_left 2
     ·simp only [List.getElem?_toArray, List.getElem?_cons_zero, List.getElem?_cons_succ]; rfl
     ·rfl
     ·intro _ hSw; (try dsimp only at hSw); go_simp <;> with_reducible rfl
     (try simp only [Act.put, List.setIfInBounds_toArray, List.set_cons_zero, List.set_cons_succ])
     refine wpAnyL_takeP (i := 23) [24] (oi := ?_) (v := ?_) ?_ (by kernel_rfl) (by kernel_rfl) (by kernel_rfl) (by kernel_rfl) (fun _ _ _ h => h) (Or.inl ⟨?_, ?_⟩) hHeld ?_
     rotate_left 2
     ·simp only [List.getElem?_toArray, List.getElem?_cons_zero, List.getElem?_cons_succ]; rfl
     ·rfl
     ·intro _ hSw; (try dsimp only at hSw); go_simp <;> with_reducible rfl
     (try simp only [Act.put, List.setIfInBounds_toArray, List.set_cons_zero, List.set_cons_succ])
     refine wpAnyL_last (o := ?_) (by kernel_rfl) ?_ (fun K hK => ?_)
     rotate_left 1
     ·simp only [List.getElem?_toArray, List.getElem?_cons_zero, List.getElem?_cons_succ]; rfl
     clear hHeld
     go_simp
     refine hK.out _ _ ?_
     clear hK K
     (try simp only [Act.put, List.setIfInBounds_toArray, List.set_cons_zero, List.set_cons_succ])
     refine wpAnyL_done (by kernel_rfl) ?_ _
     refine NoPanic.normal ?_
     exact hK _ _ (Go.Met.intro (HJ.out _ _ ⟨(Upd.refl [] _).drew, hpF_eqP _ (by kernel_rfl) ⟨rfl, rfl, rfl, rfl⟩⟩))

end Go.Proofs.YtbcoejmiihgfoaaDoor
