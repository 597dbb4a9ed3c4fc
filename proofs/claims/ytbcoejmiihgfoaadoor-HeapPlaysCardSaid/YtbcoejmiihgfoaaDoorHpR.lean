/- HeapPlays, kind 3: a value is put, and it is asked whether it is a reference. -/
import Derived.Test.YtbcoejmiihgfoaaDoorHpF
import Derived.Test.YtbcoejmiihgfoaaDoorHeldL
/-! HeapPlays, kind 3: a value is put, and it is asked whether it is a reference. -/
namespace Go.Proofs.YtbcoejmiihgfoaaDoor
open Go.RowKit

set_option maxRecDepth 1000000 in
set_option maxHeartbeats 16000000 in
theorem hreg38 {w0 : World} {B ub pb nl lc i : Nat} {la : Option Addr} {L : HL} {hv hmv : Value} {lim nur half ask at_ : Int} {S : Hp} {ov rv yv tv : Value} {ps : List OP} {rs : List Int} {ys : List Bool} {ts : List Int} {u0 u1 : Int} {wx : World} {xd k : Nat} {kd da dby dn dv v tt r : Int} {inn ref fits : Bool} {f : Nat → Value} {J K' : Act → World → Prop} {Q' : Exit → Act → World → Prop}
  (hM : HpW w0 wx B ub L hv hmv S ov rv yv tv ps rs ys ts u0 u1) (hx : wx.heap[xd]? = some (.cells #[.int .i64 kd, .int .i64 da, .int .i64 dby, .int .i64 dn, .int .i64 dv] 45)) (hxb : B ≤ xd) (hk : k < rs.length) (hr : rs.getD k 0 = r)
  (hres : S.mayRaw r dby v = (inn && fits)) (href : ((if S.mayRaw r dby v = true then S.put r dby v else S) : Hp).refB r dby = ref) (hrb : r ≤ 9223372036854775807) (hvb : v ≤ 9223372036854775807)
  (h25 : f 25 = .pointer (some ⟨xd, 0, none⟩)) (h33 : f 33 = .int .i64 (k : Int)) (h35 : f 35 = .bool inn) (h36 : f 36 = .bool ref) (h37 : f 37 = .int .i64 v) (h38 : f 38 = .int .i64 tt) (h39 : f 39 = .bool fits)
  (hJ : ∀ a' w', (HpW w0 w' B ub L hv hmv (if (inn && fits) = true then S.put r dby v else S) ov rv yv tv ps rs ys ts u0 u1 ∧ w'.heap[xd]? = some (.cells #[.int .i64 kd, .int .i64 da, .int .i64 dby, .int .i64 dn, .int .i64 dv] 45) ∧ ∃ f, a' = hpF lim nur la nl lc ask at_ pb L.hb ub half ov rv yv tv (.int .i64 i) f ∧ (f 25 = .pointer (some ⟨xd, 0, none⟩) ∧ f 33 = .int .i64 (k : Int) ∧ f 35 = .bool inn ∧ f 36 = .bool ref ∧ f 37 = .int .i64 v ∧ f 38 = .int .i64 tt ∧ f 39 = .bool fits ∧ f 236 = .bool false)) → J a' w') (hK : ∀ a' w', Go.Met J a' w' → K' a' w') :
  (hpR 38).wp Tryd.prog (Exit.then K' Q') (hpF lim nur la nl lc ask at_ pb L.hb ub half ov rv yv tv (.int .i64 i) f) wx := by
 have HJ := Lib.hid hJ
 have HM := Lib.hid (hM.same ((Upd.refl [] wx).drew))
 have HP := Lib.hid (put_any L hv hmv S r dby v wx.drew HM.out.hp hrb hvb)
 have HRF := Lib.hid href
 have HRB := Lib.hid hrb
 have hHX : wx.drew.heap[xd]? = some (.cells #[.int .i64 kd, .int .i64 da, .int .i64 dby, .int .i64 dn, .int .i64 dv] 45) := hx
 have HX := Lib.hid hHX
 have HSB : Hid (∀ i ∈ [L.wb, L.mw], i ∈ [L.hb, L.ab, L.wb, L.bb, L.bw, L.mb, L.mw]) := fun i hi => by
  simp only [List.mem_cons, List.not_mem_nil, or_false] at hi ⊢
  rcases hi with e | e <;> simp [e]
 have hlow : ∀ i ∈ [L.wb, L.mw], i < B := fun i hi => by
  have h1 := hM.lc i (by simp only [HL.all, List.mem_cons, List.not_mem_nil, or_false] at hi ⊢; rcases hi with e | e <;> simp [e])
  have h2 := hM.ub0.2
  omega
 have HXD : Hid (xd ∉ [L.wb, L.mw]) := fun hm => by have := hlow _ hm; omega
 obtain ⟨g, rc, hrv, hg⟩ := hM.refs.nth1 k hk
 have hgB : B ≤ g := (hM.rb.2.1 g (by rw [hrv]; rfl)).1
 have HG : Hid (g ∉ [L.wb, L.mw]) := fun hm => by have := hlow _ hm; omega
 rw [hr] at hg
 subst hrv
 have x2 : wx.cell? ⟨xd, 2, none⟩ = some (.int .i64 dby) := by rw [cell_of hx]; rfl
 have k0 : wx.drew.cell? ⟨g, k, none⟩ = some (.int .i64 r) ∧ wx.drew.cell? ⟨xd, 2, none⟩ = some (.int .i64 dby) := ⟨hg, x2⟩
 have hk1 : (k : Int) < (rs.length : Int) := by omega
 have hk0 : (0 : Int) ≤ (k : Int) := by omega
 unfold hpF
 rw [h25, h33, h35, h36, h37, h38, h39]
 conv => arg 2; whnf
 rw [hres] at HP HRF
 clear h25 h33 h35 h36 h37 h38 h39 hJ hx href hrb hvb hM hlow hgB hg x2 hres hr hxb
 cases inn with
 | false =>
  simp only [Bool.false_and] at HP HRF HJ
  as_aux_lemma =>
   refine wp_region_noPanic ?_
   refine wp_region_L (S := fun W => W.cell? ⟨g, k, none⟩ = some (.int .i64 r) ∧ W.cell? ⟨xd, 2, none⟩ = some (.int .i64 dby)) 25 (by kernel_rfl) ?_ (fun hHeld => ?_)
   ·first | exact k0 | exact k1
   refine wpAnyL_takeP (i := 0) [8, 10, 14, 25] (oi := ?_) (v := ?_) ?_ (by kernel_rfl) (by kernel_rfl) (by kernel_rfl) (by kernel_rfl) (fun _ _ _ h => h) (Or.inl ⟨?_, ?_⟩) hHeld ?_
   rotate_left 2
   ·simp only [List.getElem?_toArray, List.getElem?_cons_zero]; rfl
   ·rfl
   ·intro _ hSw; (try dsimp only at hSw); go_simp <;> with_reducible rfl
   (try simp only [Act.put, List.setIfInBounds_toArray, List.set_cons_zero, List.set_cons_succ])
   refine wpAnyL_takeP (i := 1) [3, 4, 8, 10, 14, 25] (oi := ?_) (v := ?_) ?_ (by kernel_rfl) (by kernel_rfl) (by kernel_rfl) (by kernel_rfl) (fun _ _ _ h => h) (Or.inl ⟨?_, ?_⟩) hHeld ?_
   rotate_left 2
   ·simp only [List.getElem?_toArray, List.getElem?_cons_zero, List.getElem?_cons_succ]; rfl
   ·rfl
   ·intro _ hSw; (try dsimp only at hSw); go_simp <;> with_reducible rfl
   (try simp only [Act.put, List.setIfInBounds_toArray, List.set_cons_zero, List.set_cons_succ])
   refine wpAnyL_takeP (i := 2) [3, 4, 8, 10, 14, 25] (oi := ?_) (v := ?_) ?_ (by kernel_rfl) (by kernel_rfl) (by kernel_rfl) (by kernel_rfl) (fun _ _ _ h => h) (Or.inl ⟨?_, ?_⟩) hHeld ?_
   rotate_left 2
   ·simp only [List.getElem?_toArray, List.getElem?_cons_zero, List.getElem?_cons_succ]; rfl
   ·rfl
   ·intro _ hSw; (try dsimp only at hSw); go_simp <;> with_reducible rfl
   (try simp only [Act.put, List.setIfInBounds_toArray, List.set_cons_zero, List.set_cons_succ])
   refine wpAnyL_takeP (i := 3) [4, 8, 10, 14, 25] (oi := ?_) (v := ?_) ?_ (by kernel_rfl) (by kernel_rfl) (by kernel_rfl) (by kernel_rfl) (fun _ _ _ h => h) (Or.inl ⟨?_, ?_⟩) hHeld ?_
   rotate_left 2
   ·simp only [List.getElem?_toArray, List.getElem?_cons_zero, List.getElem?_cons_succ]; rfl
   ·rfl
   ·intro _ hSw; (try dsimp only at hSw); go_simp <;> with_reducible rfl
   (try simp only [Act.put, List.setIfInBounds_toArray, List.set_cons_zero, List.set_cons_succ])
   refine wpAnyL_takeP (i := 4) [8, 10, 14, 25] (oi := ?_) (v := ?_) ?_ (by kernel_rfl) (by kernel_rfl) (by kernel_rfl) (by kernel_rfl) (fun _ _ _ h => h) (Or.inl ⟨?_, ?_⟩) hHeld ?_
   rotate_left 2
   ·simp only [List.getElem?_toArray, List.getElem?_cons_zero, List.getElem?_cons_succ]; rfl
   ·rfl
   ·intro _ hSw; (try dsimp only at hSw); go_simp <;> with_reducible rfl
   (try simp only [Act.put, List.setIfInBounds_toArray, List.set_cons_zero, List.set_cons_succ])
   refine wpAnyL_takeP (i := 5) [6, 8, 10, 14, 25] (oi := ?_) (v := ?_) ?_ (by kernel_rfl) (by kernel_rfl) (by kernel_rfl) (by kernel_rfl) (fun _ _ _ h => h) (Or.inl ⟨?_, ?_⟩) hHeld ?_
   rotate_left 2
   ·simp only [List.getElem?_toArray, List.getElem?_cons_zero, List.getElem?_cons_succ]; rfl
   ·rfl
   ·intro _ hSw; (try dsimp only at hSw); go_simp <;> with_reducible rfl
   (try simp only [Act.put, List.setIfInBounds_toArray, List.set_cons_zero, List.set_cons_succ])
   refine wpAnyL_takeP (i := 6) [8, 10, 14, 25] (oi := ?_) (v := ?_) ?_ (by kernel_rfl) (by kernel_rfl) (by kernel_rfl) (by kernel_rfl) (fun _ _ _ h => h) (Or.inl ⟨?_, ?_⟩) hHeld ?_
   rotate_left 2
   ·simp only [List.getElem?_toArray, List.getElem?_cons_zero, List.getElem?_cons_succ]; rfl
   ·rfl
   ·intro _ hSw; (try dsimp only at hSw); go_simp <;> with_reducible rfl
   (try simp only [Act.put, List.setIfInBounds_toArray, List.set_cons_zero, List.set_cons_succ])
   refine wpAnyL_takeP (i := 7) [8, 10, 14, 25] (oi := ?_) (v := ?_) ?_ (by kernel_rfl) (by kernel_rfl) (by kernel_rfl) (by kernel_rfl) (fun _ _ _ h => h) (Or.inl ⟨?_, ?_⟩) hHeld ?_
   rotate_left 2
   ·simp only [List.getElem?_toArray, List.getElem?_cons_zero, List.getElem?_cons_succ]; rfl
   ·rfl
   ·intro _ hSw; (try dsimp only at hSw); go_simp <;> with_reducible rfl
   (try simp only [Act.put, List.setIfInBounds_toArray, List.set_cons_zero, List.set_cons_succ])
   refine wpAnyL_takeP (i := 9) [10, 14, 25] (oi := ?_) (v := ?_) ?_ (by kernel_rfl) (by kernel_rfl) (by kernel_rfl) (by kernel_rfl) (fun _ _ _ h => h) (Or.inl ⟨?_, ?_⟩) hHeld ?_
   rotate_left 2
   ·simp only [List.getElem?_toArray, List.getElem?_cons_zero, List.getElem?_cons_succ]; rfl
   ·rfl
   ·intro _ hSw; (try dsimp only at hSw); go_simp <;> with_reducible rfl
   (try simp only [Act.put, List.setIfInBounds_toArray, List.set_cons_zero, List.set_cons_succ])
   refine wpAnyL_one (i := 8) (o := ?_) (by kernel_rfl) ?_ (fun K hK => ?_)
   rotate_left 1
   ·simp only [List.getElem?_toArray, List.getElem?_cons_zero, List.getElem?_cons_succ]; rfl
   clear hHeld
   go_simp
   (go_at_call 15; refine (HP.out).mono ?_; rintro e w3 ⟨rfl, hH3, hu3⟩; have HM3 := Lib.hid (HM.out.heap hH3 hu3 HSB.out); have k1 := (⟨hu3.cell k0.1 HG.out, hu3.cell k0.2 HXD.out⟩ : _ ∧ _); have HX3 := Lib.hid (hu3.heap HX.out HXD.out); have HR := Lib.hid (ref_any L hv hmv _ r dby w3 hH3 HRB.out); rw [HRF.out] at HR; clear hH3 hu3)
   try go_wp2_with fail
   refine hK.out _ _ ?_ (fun hHeld => ?_)
   ·first | exact k0 | exact k1
   clear hK K
   (try simp only [Act.put, List.setIfInBounds_toArray, List.set_cons_zero, List.set_cons_succ])
   refine wpAnyL_takeP (i := 10) [14, 25] (oi := ?_) (v := ?_) ?_ (by kernel_rfl) (by kernel_rfl) (by kernel_rfl) (by kernel_rfl) (fun _ _ _ h => h) (Or.inl ⟨?_, ?_⟩) hHeld ?_
   rotate_left 2
   ·simp only [List.getElem?_toArray, List.getElem?_cons_zero, List.getElem?_cons_succ]; rfl
   ·rfl
   ·intro _ hSw; (try dsimp only at hSw); go_simp <;> with_reducible rfl
   (try simp only [Act.put, List.setIfInBounds_toArray, List.set_cons_zero, List.set_cons_succ])
   refine wpAnyL_takeP (i := 11) [12, 13, 14, 25] (oi := ?_) (v := undef) ?_ (by kernel_rfl) (by kernel_rfl) (by kernel_rfl) (by kernel_rfl) (fun _ _ _ h => h) (Or.inr ⟨?_, rfl⟩) hHeld ?_
   rotate_left 1
   ·simp only [List.getElem?_toArray, List.getElem?_cons_zero, List.getElem?_cons_succ]; rfl
   ·rfl
   (try simp only [Act.put, List.setIfInBounds_toArray, List.set_cons_zero, List.set_cons_succ])
   refine wpAnyL_takeP (i := 12) [13, 14, 25] (oi := ?_) (v := ?_) ?_ (by kernel_rfl) (by kernel_rfl) (by kernel_rfl) (by kernel_rfl) (fun _ _ _ h => h) (Or.inl ⟨?_, ?_⟩) hHeld ?_
   rotate_left 2
   ·simp only [List.getElem?_toArray, List.getElem?_cons_zero, List.getElem?_cons_succ]; rfl
   ·rfl
   ·intro _ hSw; (try dsimp only at hSw); go_simp <;> with_reducible rfl
   (try simp only [Act.put, List.setIfInBounds_toArray, List.set_cons_zero, List.set_cons_succ])
   refine wpAnyL_takeP (i := 13) [14, 25] (oi := ?_) (v := ?_) ?_ (by kernel_rfl) (by kernel_rfl) (by kernel_rfl) (by kernel_rfl) (fun _ _ _ h => h) (Or.inl ⟨?_, ?_⟩) hHeld ?_
   rotate_left 2
   ·simp only [List.getElem?_toArray, List.getElem?_cons_zero, List.getElem?_cons_succ]; rfl
   ·rfl
   ·intro _ hSw; (try dsimp only at hSw); go_simp <;> with_reducible rfl
   (try simp only [Act.put, List.setIfInBounds_toArray, List.set_cons_zero, List.set_cons_succ])
   refine wpAnyL_takeP (i := 14) [25] (oi := ?_) (v := ?_) ?_ (by kernel_rfl) (by kernel_rfl) (by kernel_rfl) (by kernel_rfl) (fun _ _ _ h => h) (Or.inl ⟨?_, ?_⟩) hHeld ?_
   rotate_left 2
   ·simp only [List.getElem?_toArray, List.getElem?_cons_zero, List.getElem?_cons_succ]; rfl
   ·rfl
   ·intro _ hSw; (try dsimp only at hSw); go_simp <;> with_reducible rfl
   (try simp only [Act.put, List.setIfInBounds_toArray, List.set_cons_zero, List.set_cons_succ])
   refine wpAnyL_takeP (i := 15) [22, 24, 25] (oi := ?_) (v := ?_) ?_ (by kernel_rfl) (by kernel_rfl) (by kernel_rfl) (by kernel_rfl) (fun _ _ _ h => h) (Or.inl ⟨?_, ?_⟩) hHeld ?_
   rotate_left 2
   ·simp only [List.getElem?_toArray, List.getElem?_cons_zero, List.getElem?_cons_succ]; rfl
   ·rfl
   ·intro _ hSw; (try dsimp only at hSw); go_simp <;> with_reducible rfl
   (try simp only [Act.put, List.setIfInBounds_toArray, List.set_cons_zero, List.set_cons_succ])
   refine wpAnyL_takeP (i := 16) [18, 19, 22, 24, 25] (oi := ?_) (v := ?_) ?_ (by kernel_rfl) (by kernel_rfl) (by kernel_rfl) (by kernel_rfl) (fun _ _ _ h => h) (Or.inl ⟨?_, ?_⟩) hHeld ?_
   rotate_left 2
   ·simp only [List.getElem?_toArray, List.getElem?_cons_zero, List.getElem?_cons_succ]; rfl
   ·rfl
   ·intro _ hSw; (try dsimp only at hSw); go_simp <;> with_reducible rfl
   (try simp only [Act.put, List.setIfInBounds_toArray, List.set_cons_zero, List.set_cons_succ])
   refine wpAnyL_takeP (i := 17) [18, 19, 22, 24, 25] (oi := ?_) (v := ?_) ?_ (by kernel_rfl) (by kernel_rfl) (by kernel_rfl) (by kernel_rfl) (fun _ _ _ h => h) (Or.inl ⟨?_, ?_⟩) hHeld ?_
   rotate_left 2
   ·simp only [List.getElem?_toArray, List.getElem?_cons_zero, List.getElem?_cons_succ]; rfl
   ·rfl
   ·intro _ hSw; (try dsimp only at hSw); go_simp <;> with_reducible rfl
   (try simp only [Act.put, List.setIfInBounds_toArray, List.set_cons_zero, List.set_cons_succ])
   refine wpAnyL_takeP (i := 18) [19, 22, 24, 25] (oi := ?_) (v := ?_) ?_ (by kernel_rfl) (by kernel_rfl) (by kernel_rfl) (by kernel_rfl) (fun _ _ _ h => h) (Or.inl ⟨?_, ?_⟩) hHeld ?_
   rotate_left 2
   ·simp only [List.getElem?_toArray, List.getElem?_cons_zero, List.getElem?_cons_succ]; rfl
   ·rfl
   ·intro _ hSw; (try dsimp only at hSw); go_simp <;> with_reducible rfl
   (try simp only [Act.put, List.setIfInBounds_toArray, List.set_cons_zero, List.set_cons_succ])
   refine wpAnyL_takeP (i := 19) [22, 24, 25] (oi := ?_) (v := ?_) ?_ (by kernel_rfl) (by kernel_rfl) (by kernel_rfl) (by kernel_rfl) (fun _ _ _ h => h) (Or.inl ⟨?_, ?_⟩) hHeld ?_
   rotate_left 2
   ·simp only [List.getElem?_toArray, List.getElem?_cons_zero, List.getElem?_cons_succ]; rfl
   ·rfl
   ·intro _ hSw; (try dsimp only at hSw); go_simp <;> with_reducible rfl
   (try simp only [Act.put, List.setIfInBounds_toArray, List.set_cons_zero, List.set_cons_succ])
   refine wpAnyL_takeP (i := 20) [21, 22, 24, 25] (oi := ?_) (v := ?_) ?_ (by kernel_rfl) (by kernel_rfl) (by kernel_rfl) (by kernel_rfl) (fun _ _ _ h => h) (Or.inl ⟨?_, ?_⟩) hHeld ?_
   rotate_left 2
   ·simp only [List.getElem?_toArray, List.getElem?_cons_zero, List.getElem?_cons_succ]; rfl
   ·rfl
   ·intro _ hSw; (try dsimp only at hSw); go_simp <;> with_reducible rfl
   (try simp only [Act.put, List.setIfInBounds_toArray, List.set_cons_zero, List.set_cons_succ])
   refine wpAnyL_takeP (i := 21) [22, 24, 25] (oi := ?_) (v := ?_) ?_ (by kernel_rfl) (by kernel_rfl) (by kernel_rfl) (by kernel_rfl) (fun _ _ _ h => h) (Or.inl ⟨?_, ?_⟩) hHeld ?_
   rotate_left 2
   ·simp only [List.getElem?_toArray, List.getElem?_cons_zero, List.getElem?_cons_succ]; rfl
   ·rfl
   ·intro _ hSw; (try dsimp only at hSw); go_simp <;> with_reducible rfl
   (try simp only [Act.put, List.setIfInBounds_toArray, List.set_cons_zero, List.set_cons_succ])
   refine wpAnyL_takeP (i := 23) [24, 25] (oi := ?_) (v := ?_) ?_ (by kernel_rfl) (by kernel_rfl) (by kernel_rfl) (by kernel_rfl) (fun _ _ _ h => h) (Or.inl ⟨?_, ?_⟩) hHeld ?_
   rotate_left 2
   ·simp only [List.getElem?_toArray, List.getElem?_cons_zero, List.getElem?_cons_succ]; rfl
   ·rfl
   ·intro _ hSw; (try dsimp only at hSw); go_simp <;> with_reducible rfl
   (try simp only [Act.put, List.setIfInBounds_toArray, List.set_cons_zero, List.set_cons_succ])
   refine wpAnyL_one (i := 22) (o := ?_) (by kernel_rfl) ?_ (fun K hK => ?_)
   rotate_left 1
   ·simp only [List.getElem?_toArray, List.getElem?_cons_zero, List.getElem?_cons_succ]; rfl
   clear hHeld
   go_simp
   (go_at_call 16; refine (HR.out).mono ?_; rintro e w4 ⟨rfl, rfl⟩)
   try go_wp2_with fail
   refine hK.out _ _ ?_ (fun hHeld => ?_)
   ·first | exact k0 | exact k1
   clear hK K
   (try simp only [Act.put, List.setIfInBounds_toArray, List.set_cons_zero, List.set_cons_succ])
   refine wpAnyL_takeP (i := 24) [25] (oi := ?_) (v := ?_) ?_ (by kernel_rfl) (by kernel_rfl) (by kernel_rfl) (by kernel_rfl) (fun _ _ _ h => h) (Or.inl ⟨?_, ?_⟩) hHeld ?_
   rotate_left 2
   ·simp only [List.getElem?_toArray, List.getElem?_cons_zero, List.getElem?_cons_succ]; rfl
   ·rfl
   ·intro _ hSw; (try dsimp only at hSw); go_simp <;> with_reducible rfl
   (try simp only [Act.put, List.setIfInBounds_toArray, List.set_cons_zero, List.set_cons_succ])
   refine wpAnyL_last (o := ?_) (by kernel_rfl) ?_ (fun K hK => ?_)
   rotate_left 1
   ·simp only [List.getElem?_toArray, List.getElem?_cons_zero, List.getElem?_cons_succ]; rfl
   clear hHeld
   go_simp
   refine hK.out _ _ ?_
   clear hK K
   (try simp only [Act.put, List.setIfInBounds_toArray, List.set_cons_zero, List.set_cons_succ])
   refine wpAnyL_done (by kernel_rfl) ?_ _
   refine NoPanic.normal ?_
   exact hK _ _ (Go.Met.intro (HJ.out _ _ ⟨HM3.out, HX3.out, hpF_eqP _ (by kernel_rfl) ⟨rfl, rfl, rfl, rfl, rfl, rfl, rfl, rfl⟩⟩))
 | true =>
  cases fits with
  | true =>
   simp only [Bool.true_and] at HP HRF HJ
   as_aux_lemma =>
    refine wp_region_noPanic ?_
    refine wp_region_L (S := fun W => W.cell? ⟨g, k, none⟩ = some (.int .i64 r) ∧ W.cell? ⟨xd, 2, none⟩ = some (.int .i64 dby)) 25 (by kernel_rfl) ?_ (fun hHeld => ?_)
    ·first | exact k0 | exact k1
    refine wpAnyL_takeP (i := 0) [8, 10, 14, 25] (oi := ?_) (v := ?_) ?_ (by kernel_rfl) (by kernel_rfl) (by kernel_rfl) (by kernel_rfl) (fun _ _ _ h => h) (Or.inl ⟨?_, ?_⟩) hHeld ?_
    rotate_left 2
    ·simp only [List.getElem?_toArray, List.getElem?_cons_zero]; rfl
    ·rfl
    ·intro _ hSw; (try dsimp only at hSw); go_simp <;> with_reducible rfl
    (try simp only [Act.put, List.setIfInBounds_toArray, List.set_cons_zero, List.set_cons_succ])
    refine wpAnyL_takeP (i := 1) [3, 4, 8, 10, 14, 25] (oi := ?_) (v := ?_) ?_ (by kernel_rfl) (by kernel_rfl) (by kernel_rfl) (by kernel_rfl) (fun _ _ _ h => h) (Or.inl ⟨?_, ?_⟩) hHeld ?_
    rotate_left 2
    ·simp only [List.getElem?_toArray, List.getElem?_cons_zero, List.getElem?_cons_succ]; rfl
    ·rfl
    ·intro _ hSw; (try dsimp only at hSw); go_simp <;> with_reducible rfl
    (try simp only [Act.put, List.setIfInBounds_toArray, List.set_cons_zero, List.set_cons_succ])
    refine wpAnyL_takeP (i := 2) [3, 4, 8, 10, 14, 25] (oi := ?_) (v := ?_) ?_ (by kernel_rfl) (by kernel_rfl) (by kernel_rfl) (by kernel_rfl) (fun _ _ _ h => h) (Or.inl ⟨?_, ?_⟩) hHeld ?_
    rotate_left 2
    ·simp only [List.getElem?_toArray, List.getElem?_cons_zero, List.getElem?_cons_succ]; rfl
    ·rfl
    ·intro _ hSw; (try dsimp only at hSw); go_simp <;> with_reducible rfl
    (try simp only [Act.put, List.setIfInBounds_toArray, List.set_cons_zero, List.set_cons_succ])
    refine wpAnyL_takeP (i := 3) [4, 8, 10, 14, 25] (oi := ?_) (v := ?_) ?_ (by kernel_rfl) (by kernel_rfl) (by kernel_rfl) (by kernel_rfl) (fun _ _ _ h => h) (Or.inl ⟨?_, ?_⟩) hHeld ?_
    rotate_left 2
    ·simp only [List.getElem?_toArray, List.getElem?_cons_zero, List.getElem?_cons_succ]; rfl
    ·rfl
    ·intro _ hSw; (try dsimp only at hSw); go_simp <;> with_reducible rfl
    (try simp only [Act.put, List.setIfInBounds_toArray, List.set_cons_zero, List.set_cons_succ])
    refine wpAnyL_takeP (i := 4) [8, 10, 14, 25] (oi := ?_) (v := ?_) ?_ (by kernel_rfl) (by kernel_rfl) (by kernel_rfl) (by kernel_rfl) (fun _ _ _ h => h) (Or.inl ⟨?_, ?_⟩) hHeld ?_
    rotate_left 2
    ·simp only [List.getElem?_toArray, List.getElem?_cons_zero, List.getElem?_cons_succ]; rfl
    ·rfl
    ·intro _ hSw; (try dsimp only at hSw); go_simp <;> with_reducible rfl
    (try simp only [Act.put, List.setIfInBounds_toArray, List.set_cons_zero, List.set_cons_succ])
    refine wpAnyL_takeP (i := 5) [6, 8, 10, 14, 25] (oi := ?_) (v := ?_) ?_ (by kernel_rfl) (by kernel_rfl) (by kernel_rfl) (by kernel_rfl) (fun _ _ _ h => h) (Or.inl ⟨?_, ?_⟩) hHeld ?_
    rotate_left 2
    ·simp only [List.getElem?_toArray, List.getElem?_cons_zero, List.getElem?_cons_succ]; rfl
    ·rfl
    ·intro _ hSw; (try dsimp only at hSw); go_simp <;> with_reducible rfl
    (try simp only [Act.put, List.setIfInBounds_toArray, List.set_cons_zero, List.set_cons_succ])
    refine wpAnyL_takeP (i := 6) [8, 10, 14, 25] (oi := ?_) (v := ?_) ?_ (by kernel_rfl) (by kernel_rfl) (by kernel_rfl) (by kernel_rfl) (fun _ _ _ h => h) (Or.inl ⟨?_, ?_⟩) hHeld ?_
    rotate_left 2
    ·simp only [List.getElem?_toArray, List.getElem?_cons_zero, List.getElem?_cons_succ]; rfl
    ·rfl
    ·intro _ hSw; (try dsimp only at hSw); go_simp <;> with_reducible rfl
    (try simp only [Act.put, List.setIfInBounds_toArray, List.set_cons_zero, List.set_cons_succ])
    refine wpAnyL_takeP (i := 7) [8, 10, 14, 25] (oi := ?_) (v := ?_) ?_ (by kernel_rfl) (by kernel_rfl) (by kernel_rfl) (by kernel_rfl) (fun _ _ _ h => h) (Or.inl ⟨?_, ?_⟩) hHeld ?_
    rotate_left 2
    ·simp only [List.getElem?_toArray, List.getElem?_cons_zero, List.getElem?_cons_succ]; rfl
    ·rfl
    ·intro _ hSw; (try dsimp only at hSw); go_simp <;> with_reducible rfl
    (try simp only [Act.put, List.setIfInBounds_toArray, List.set_cons_zero, List.set_cons_succ])
    refine wpAnyL_takeP (i := 9) [10, 14, 25] (oi := ?_) (v := ?_) ?_ (by kernel_rfl) (by kernel_rfl) (by kernel_rfl) (by kernel_rfl) (fun _ _ _ h => h) (Or.inl ⟨?_, ?_⟩) hHeld ?_
    rotate_left 2
    ·simp only [List.getElem?_toArray, List.getElem?_cons_zero, List.getElem?_cons_succ]; rfl
    ·rfl
    ·intro _ hSw; (try dsimp only at hSw); go_simp <;> with_reducible rfl
    (try simp only [Act.put, List.setIfInBounds_toArray, List.set_cons_zero, List.set_cons_succ])
    refine wpAnyL_one (i := 8) (o := ?_) (by kernel_rfl) ?_ (fun K hK => ?_)
    rotate_left 1
    ·simp only [List.getElem?_toArray, List.getElem?_cons_zero, List.getElem?_cons_succ]; rfl
    clear hHeld
    go_simp
    (go_at_call 15; refine (HP.out).mono ?_; rintro e w3 ⟨rfl, hH3, hu3⟩; have HM3 := Lib.hid (HM.out.heap hH3 hu3 HSB.out); have k1 := (⟨hu3.cell k0.1 HG.out, hu3.cell k0.2 HXD.out⟩ : _ ∧ _); have HX3 := Lib.hid (hu3.heap HX.out HXD.out); have HR := Lib.hid (ref_any L hv hmv _ r dby w3 hH3 HRB.out); rw [HRF.out] at HR; clear hH3 hu3)
    try go_wp2_with fail
    refine hK.out _ _ ?_ (fun hHeld => ?_)
    ·first | exact k0 | exact k1
    clear hK K
    (try simp only [Act.put, List.setIfInBounds_toArray, List.set_cons_zero, List.set_cons_succ])
    refine wpAnyL_takeP (i := 10) [14, 25] (oi := ?_) (v := ?_) ?_ (by kernel_rfl) (by kernel_rfl) (by kernel_rfl) (by kernel_rfl) (fun _ _ _ h => h) (Or.inl ⟨?_, ?_⟩) hHeld ?_
    rotate_left 2
    ·simp only [List.getElem?_toArray, List.getElem?_cons_zero, List.getElem?_cons_succ]; rfl
    ·rfl
    ·intro _ hSw; (try dsimp only at hSw); go_simp <;> with_reducible rfl
    (try simp only [Act.put, List.setIfInBounds_toArray, List.set_cons_zero, List.set_cons_succ])
    refine wpAnyL_takeP (i := 11) [12, 13, 14, 25] (oi := ?_) (v := ?_) ?_ (by kernel_rfl) (by kernel_rfl) (by kernel_rfl) (by kernel_rfl) (fun _ _ _ h => h) (Or.inl ⟨?_, ?_⟩) hHeld ?_
    rotate_left 2
    ·simp only [List.getElem?_toArray, List.getElem?_cons_zero, List.getElem?_cons_succ]; rfl
    ·rfl
    ·intro _ hSw; (try dsimp only at hSw); go_simp <;> with_reducible rfl
    (try simp only [Act.put, List.setIfInBounds_toArray, List.set_cons_zero, List.set_cons_succ])
    refine wpAnyL_takeP (i := 12) [13, 14, 25] (oi := ?_) (v := ?_) ?_ (by kernel_rfl) (by kernel_rfl) (by kernel_rfl) (by kernel_rfl) (fun _ _ _ h => h) (Or.inl ⟨?_, ?_⟩) hHeld ?_
    rotate_left 2
    ·simp only [List.getElem?_toArray, List.getElem?_cons_zero, List.getElem?_cons_succ]; rfl
    ·rfl
    ·intro _ hSw; (try dsimp only at hSw); go_simp <;> with_reducible rfl
    (try simp only [Act.put, List.setIfInBounds_toArray, List.set_cons_zero, List.set_cons_succ])
    refine wpAnyL_takeP (i := 13) [14, 25] (oi := ?_) (v := ?_) ?_ (by kernel_rfl) (by kernel_rfl) (by kernel_rfl) (by kernel_rfl) (fun _ _ _ h => h) (Or.inl ⟨?_, ?_⟩) hHeld ?_
    rotate_left 2
    ·simp only [List.getElem?_toArray, List.getElem?_cons_zero, List.getElem?_cons_succ]; rfl
    ·rfl
    ·intro _ hSw; (try dsimp only at hSw); go_simp <;> with_reducible rfl
    (try simp only [Act.put, List.setIfInBounds_toArray, List.set_cons_zero, List.set_cons_succ])
    refine wpAnyL_takeP (i := 14) [25] (oi := ?_) (v := ?_) ?_ (by kernel_rfl) (by kernel_rfl) (by kernel_rfl) (by kernel_rfl) (fun _ _ _ h => h) (Or.inl ⟨?_, ?_⟩) hHeld ?_
    rotate_left 2
    ·simp only [List.getElem?_toArray, List.getElem?_cons_zero, List.getElem?_cons_succ]; rfl
    ·rfl
    ·intro _ hSw; (try dsimp only at hSw); go_simp <;> with_reducible rfl
    (try simp only [Act.put, List.setIfInBounds_toArray, List.set_cons_zero, List.set_cons_succ])
    refine wpAnyL_takeP (i := 15) [22, 24, 25] (oi := ?_) (v := ?_) ?_ (by kernel_rfl) (by kernel_rfl) (by kernel_rfl) (by kernel_rfl) (fun _ _ _ h => h) (Or.inl ⟨?_, ?_⟩) hHeld ?_
    rotate_left 2
    ·simp only [List.getElem?_toArray, List.getElem?_cons_zero, List.getElem?_cons_succ]; rfl
    ·rfl
    ·intro _ hSw; (try dsimp only at hSw); go_simp <;> with_reducible rfl
    (try simp only [Act.put, List.setIfInBounds_toArray, List.set_cons_zero, List.set_cons_succ])
    refine wpAnyL_takeP (i := 16) [18, 19, 22, 24, 25] (oi := ?_) (v := ?_) ?_ (by kernel_rfl) (by kernel_rfl) (by kernel_rfl) (by kernel_rfl) (fun _ _ _ h => h) (Or.inl ⟨?_, ?_⟩) hHeld ?_
    rotate_left 2
    ·simp only [List.getElem?_toArray, List.getElem?_cons_zero, List.getElem?_cons_succ]; rfl
    ·rfl
    ·intro _ hSw; (try dsimp only at hSw); go_simp <;> with_reducible rfl
    (try simp only [Act.put, List.setIfInBounds_toArray, List.set_cons_zero, List.set_cons_succ])
    refine wpAnyL_takeP (i := 17) [18, 19, 22, 24, 25] (oi := ?_) (v := ?_) ?_ (by kernel_rfl) (by kernel_rfl) (by kernel_rfl) (by kernel_rfl) (fun _ _ _ h => h) (Or.inl ⟨?_, ?_⟩) hHeld ?_
    rotate_left 2
    ·simp only [List.getElem?_toArray, List.getElem?_cons_zero, List.getElem?_cons_succ]; rfl
    ·rfl
    ·intro _ hSw; (try dsimp only at hSw); go_simp <;> with_reducible rfl
    (try simp only [Act.put, List.setIfInBounds_toArray, List.set_cons_zero, List.set_cons_succ])
    refine wpAnyL_takeP (i := 18) [19, 22, 24, 25] (oi := ?_) (v := ?_) ?_ (by kernel_rfl) (by kernel_rfl) (by kernel_rfl) (by kernel_rfl) (fun _ _ _ h => h) (Or.inl ⟨?_, ?_⟩) hHeld ?_
    rotate_left 2
    ·simp only [List.getElem?_toArray, List.getElem?_cons_zero, List.getElem?_cons_succ]; rfl
    ·rfl
    ·intro _ hSw; (try dsimp only at hSw); go_simp <;> with_reducible rfl
    (try simp only [Act.put, List.setIfInBounds_toArray, List.set_cons_zero, List.set_cons_succ])
    refine wpAnyL_takeP (i := 19) [22, 24, 25] (oi := ?_) (v := ?_) ?_ (by kernel_rfl) (by kernel_rfl) (by kernel_rfl) (by kernel_rfl) (fun _ _ _ h => h) (Or.inl ⟨?_, ?_⟩) hHeld ?_
    rotate_left 2
    ·simp only [List.getElem?_toArray, List.getElem?_cons_zero, List.getElem?_cons_succ]; rfl
    ·rfl
    ·intro _ hSw; (try dsimp only at hSw); go_simp <;> with_reducible rfl
    (try simp only [Act.put, List.setIfInBounds_toArray, List.set_cons_zero, List.set_cons_succ])
    refine wpAnyL_takeP (i := 20) [21, 22, 24, 25] (oi := ?_) (v := ?_) ?_ (by kernel_rfl) (by kernel_rfl) (by kernel_rfl) (by kernel_rfl) (fun _ _ _ h => h) (Or.inl ⟨?_, ?_⟩) hHeld ?_
    rotate_left 2
    ·simp only [List.getElem?_toArray, List.getElem?_cons_zero, List.getElem?_cons_succ]; rfl
    ·rfl
    ·intro _ hSw; (try dsimp only at hSw); go_simp <;> with_reducible rfl
    (try simp only [Act.put, List.setIfInBounds_toArray, List.set_cons_zero, List.set_cons_succ])
    refine wpAnyL_takeP (i := 21) [22, 24, 25] (oi := ?_) (v := ?_) ?_ (by kernel_rfl) (by kernel_rfl) (by kernel_rfl) (by kernel_rfl) (fun _ _ _ h => h) (Or.inl ⟨?_, ?_⟩) hHeld ?_
    rotate_left 2
    ·simp only [List.getElem?_toArray, List.getElem?_cons_zero, List.getElem?_cons_succ]; rfl
    ·rfl
    ·intro _ hSw; (try dsimp only at hSw); go_simp <;> with_reducible rfl
    (try simp only [Act.put, List.setIfInBounds_toArray, List.set_cons_zero, List.set_cons_succ])
    refine wpAnyL_takeP (i := 23) [24, 25] (oi := ?_) (v := ?_) ?_ (by kernel_rfl) (by kernel_rfl) (by kernel_rfl) (by kernel_rfl) (fun _ _ _ h => h) (Or.inl ⟨?_, ?_⟩) hHeld ?_
    rotate_left 2
    ·simp only [List.getElem?_toArray, List.getElem?_cons_zero, List.getElem?_cons_succ]; rfl
    ·rfl
    ·intro _ hSw; (try dsimp only at hSw); go_simp <;> with_reducible rfl
    (try simp only [Act.put, List.setIfInBounds_toArray, List.set_cons_zero, List.set_cons_succ])
    refine wpAnyL_one (i := 22) (o := ?_) (by kernel_rfl) ?_ (fun K hK => ?_)
    rotate_left 1
    ·simp only [List.getElem?_toArray, List.getElem?_cons_zero, List.getElem?_cons_succ]; rfl
    clear hHeld
    go_simp
    (go_at_call 16; refine (HR.out).mono ?_; rintro e w4 ⟨rfl, rfl⟩)
    try go_wp2_with fail
    refine hK.out _ _ ?_ (fun hHeld => ?_)
    ·first | exact k0 | exact k1
    clear hK K
    (try simp only [Act.put, List.setIfInBounds_toArray, List.set_cons_zero, List.set_cons_succ])
    refine wpAnyL_takeP (i := 24) [25] (oi := ?_) (v := ?_) ?_ (by kernel_rfl) (by kernel_rfl) (by kernel_rfl) (by kernel_rfl) (fun _ _ _ h => h) (Or.inl ⟨?_, ?_⟩) hHeld ?_
    rotate_left 2
    ·simp only [List.getElem?_toArray, List.getElem?_cons_zero, List.getElem?_cons_succ]; rfl
    ·rfl
    ·intro _ hSw; (try dsimp only at hSw); go_simp <;> with_reducible rfl
    (try simp only [Act.put, List.setIfInBounds_toArray, List.set_cons_zero, List.set_cons_succ])
    refine wpAnyL_last (o := ?_) (by kernel_rfl) ?_ (fun K hK => ?_)
    rotate_left 1
    ·simp only [List.getElem?_toArray, List.getElem?_cons_zero, List.getElem?_cons_succ]; rfl
    clear hHeld
    go_simp
    refine hK.out _ _ ?_
    clear hK K
    (try simp only [Act.put, List.setIfInBounds_toArray, List.set_cons_zero, List.set_cons_succ])
    refine wpAnyL_done (by kernel_rfl) ?_ _
    refine NoPanic.normal ?_
    exact hK _ _ (Go.Met.intro (HJ.out _ _ ⟨HM3.out, HX3.out, hpF_eqP _ (by kernel_rfl) ⟨rfl, rfl, rfl, rfl, rfl, rfl, rfl, rfl⟩⟩))
  | false =>
   simp only [Bool.true_and] at HP HRF HJ
   as_aux_lemma =>
    refine wp_region_noPanic ?_
    refine wp_region_L (S := fun W => W.cell? ⟨g, k, none⟩ = some (.int .i64 r) ∧ W.cell? ⟨xd, 2, none⟩ = some (.int .i64 dby)) 25 (by kernel_rfl) ?_ (fun hHeld => ?_)
    ·first | exact k0 | exact k1
    refine wpAnyL_takeP (i := 0) [8, 10, 14, 25] (oi := ?_) (v := ?_) ?_ (by kernel_rfl) (by kernel_rfl) (by kernel_rfl) (by kernel_rfl) (fun _ _ _ h => h) (Or.inl ⟨?_, ?_⟩) hHeld ?_
    rotate_left 2
    ·simp only [List.getElem?_toArray, List.getElem?_cons_zero]; rfl
    ·rfl
    ·intro _ hSw; (try dsimp only at hSw); go_simp <;> with_reducible rfl
    (try simp only [Act.put, List.setIfInBounds_toArray, List.set_cons_zero, List.set_cons_succ])
    refine wpAnyL_takeP (i := 1) [3, 4, 8, 10, 14, 25] (oi := ?_) (v := ?_) ?_ (by kernel_rfl) (by kernel_rfl) (by kernel_rfl) (by kernel_rfl) (fun _ _ _ h => h) (Or.inl ⟨?_, ?_⟩) hHeld ?_
    rotate_left 2
    ·simp only [List.getElem?_toArray, List.getElem?_cons_zero, List.getElem?_cons_succ]; rfl
    ·rfl
    ·intro _ hSw; (try dsimp only at hSw); go_simp <;> with_reducible rfl
    (try simp only [Act.put, List.setIfInBounds_toArray, List.set_cons_zero, List.set_cons_succ])
    refine wpAnyL_takeP (i := 2) [3, 4, 8, 10, 14, 25] (oi := ?_) (v := ?_) ?_ (by kernel_rfl) (by kernel_rfl) (by kernel_rfl) (by kernel_rfl) (fun _ _ _ h => h) (Or.inl ⟨?_, ?_⟩) hHeld ?_
    rotate_left 2
    ·simp only [List.getElem?_toArray, List.getElem?_cons_zero, List.getElem?_cons_succ]; rfl
    ·rfl
    ·intro _ hSw; (try dsimp only at hSw); go_simp <;> with_reducible rfl
    (try simp only [Act.put, List.setIfInBounds_toArray, List.set_cons_zero, List.set_cons_succ])
    refine wpAnyL_takeP (i := 3) [4, 8, 10, 14, 25] (oi := ?_) (v := ?_) ?_ (by kernel_rfl) (by kernel_rfl) (by kernel_rfl) (by kernel_rfl) (fun _ _ _ h => h) (Or.inl ⟨?_, ?_⟩) hHeld ?_
    rotate_left 2
    ·simp only [List.getElem?_toArray, List.getElem?_cons_zero, List.getElem?_cons_succ]; rfl
    ·rfl
    ·intro _ hSw; (try dsimp only at hSw); go_simp <;> with_reducible rfl
    (try simp only [Act.put, List.setIfInBounds_toArray, List.set_cons_zero, List.set_cons_succ])
    refine wpAnyL_takeP (i := 4) [8, 10, 14, 25] (oi := ?_) (v := ?_) ?_ (by kernel_rfl) (by kernel_rfl) (by kernel_rfl) (by kernel_rfl) (fun _ _ _ h => h) (Or.inl ⟨?_, ?_⟩) hHeld ?_
    rotate_left 2
    ·simp only [List.getElem?_toArray, List.getElem?_cons_zero, List.getElem?_cons_succ]; rfl
    ·rfl
    ·intro _ hSw; (try dsimp only at hSw); go_simp <;> with_reducible rfl
    (try simp only [Act.put, List.setIfInBounds_toArray, List.set_cons_zero, List.set_cons_succ])
    refine wpAnyL_takeP (i := 5) [6, 8, 10, 14, 25] (oi := ?_) (v := ?_) ?_ (by kernel_rfl) (by kernel_rfl) (by kernel_rfl) (by kernel_rfl) (fun _ _ _ h => h) (Or.inl ⟨?_, ?_⟩) hHeld ?_
    rotate_left 2
    ·simp only [List.getElem?_toArray, List.getElem?_cons_zero, List.getElem?_cons_succ]; rfl
    ·rfl
    ·intro _ hSw; (try dsimp only at hSw); go_simp <;> with_reducible rfl
    (try simp only [Act.put, List.setIfInBounds_toArray, List.set_cons_zero, List.set_cons_succ])
    refine wpAnyL_takeP (i := 6) [8, 10, 14, 25] (oi := ?_) (v := ?_) ?_ (by kernel_rfl) (by kernel_rfl) (by kernel_rfl) (by kernel_rfl) (fun _ _ _ h => h) (Or.inl ⟨?_, ?_⟩) hHeld ?_
    rotate_left 2
    ·simp only [List.getElem?_toArray, List.getElem?_cons_zero, List.getElem?_cons_succ]; rfl
    ·rfl
    ·intro _ hSw; (try dsimp only at hSw); go_simp <;> with_reducible rfl
    (try simp only [Act.put, List.setIfInBounds_toArray, List.set_cons_zero, List.set_cons_succ])
    refine wpAnyL_takeP (i := 7) [8, 10, 14, 25] (oi := ?_) (v := ?_) ?_ (by kernel_rfl) (by kernel_rfl) (by kernel_rfl) (by kernel_rfl) (fun _ _ _ h => h) (Or.inl ⟨?_, ?_⟩) hHeld ?_
    rotate_left 2
    ·simp only [List.getElem?_toArray, List.getElem?_cons_zero, List.getElem?_cons_succ]; rfl
    ·rfl
    ·intro _ hSw; (try dsimp only at hSw); go_simp <;> with_reducible rfl
    (try simp only [Act.put, List.setIfInBounds_toArray, List.set_cons_zero, List.set_cons_succ])
    refine wpAnyL_takeP (i := 9) [10, 14, 25] (oi := ?_) (v := ?_) ?_ (by kernel_rfl) (by kernel_rfl) (by kernel_rfl) (by kernel_rfl) (fun _ _ _ h => h) (Or.inl ⟨?_, ?_⟩) hHeld ?_
    rotate_left 2
    ·simp only [List.getElem?_toArray, List.getElem?_cons_zero, List.getElem?_cons_succ]; rfl
    ·rfl
    ·intro _ hSw; (try dsimp only at hSw); go_simp <;> with_reducible rfl
    (try simp only [Act.put, List.setIfInBounds_toArray, List.set_cons_zero, List.set_cons_succ])
    refine wpAnyL_one (i := 8) (o := ?_) (by kernel_rfl) ?_ (fun K hK => ?_)
    rotate_left 1
    ·simp only [List.getElem?_toArray, List.getElem?_cons_zero, List.getElem?_cons_succ]; rfl
    clear hHeld
    go_simp
    (go_at_call 15; refine (HP.out).mono ?_; rintro e w3 ⟨rfl, hH3, hu3⟩; have HM3 := Lib.hid (HM.out.heap hH3 hu3 HSB.out); have k1 := (⟨hu3.cell k0.1 HG.out, hu3.cell k0.2 HXD.out⟩ : _ ∧ _); have HX3 := Lib.hid (hu3.heap HX.out HXD.out); have HR := Lib.hid (ref_any L hv hmv _ r dby w3 hH3 HRB.out); rw [HRF.out] at HR; clear hH3 hu3)
    try go_wp2_with fail
    refine hK.out _ _ ?_ (fun hHeld => ?_)
    ·first | exact k0 | exact k1
    clear hK K
    (try simp only [Act.put, List.setIfInBounds_toArray, List.set_cons_zero, List.set_cons_succ])
    refine wpAnyL_takeP (i := 10) [14, 25] (oi := ?_) (v := ?_) ?_ (by kernel_rfl) (by kernel_rfl) (by kernel_rfl) (by kernel_rfl) (fun _ _ _ h => h) (Or.inl ⟨?_, ?_⟩) hHeld ?_
    rotate_left 2
    ·simp only [List.getElem?_toArray, List.getElem?_cons_zero, List.getElem?_cons_succ]; rfl
    ·rfl
    ·intro _ hSw; (try dsimp only at hSw); go_simp <;> with_reducible rfl
    (try simp only [Act.put, List.setIfInBounds_toArray, List.set_cons_zero, List.set_cons_succ])
    refine wpAnyL_takeP (i := 11) [12, 13, 14, 25] (oi := ?_) (v := ?_) ?_ (by kernel_rfl) (by kernel_rfl) (by kernel_rfl) (by kernel_rfl) (fun _ _ _ h => h) (Or.inl ⟨?_, ?_⟩) hHeld ?_
    rotate_left 2
    ·simp only [List.getElem?_toArray, List.getElem?_cons_zero, List.getElem?_cons_succ]; rfl
    ·rfl
    ·intro _ hSw; (try dsimp only at hSw); go_simp <;> with_reducible rfl
    (try simp only [Act.put, List.setIfInBounds_toArray, List.set_cons_zero, List.set_cons_succ])
    refine wpAnyL_takeP (i := 12) [13, 14, 25] (oi := ?_) (v := ?_) ?_ (by kernel_rfl) (by kernel_rfl) (by kernel_rfl) (by kernel_rfl) (fun _ _ _ h => h) (Or.inl ⟨?_, ?_⟩) hHeld ?_
    rotate_left 2
    ·simp only [List.getElem?_toArray, List.getElem?_cons_zero, List.getElem?_cons_succ]; rfl
    ·rfl
    ·intro _ hSw; (try dsimp only at hSw); go_simp <;> with_reducible rfl
    (try simp only [Act.put, List.setIfInBounds_toArray, List.set_cons_zero, List.set_cons_succ])
    refine wpAnyL_takeP (i := 13) [14, 25] (oi := ?_) (v := ?_) ?_ (by kernel_rfl) (by kernel_rfl) (by kernel_rfl) (by kernel_rfl) (fun _ _ _ h => h) (Or.inl ⟨?_, ?_⟩) hHeld ?_
    rotate_left 2
    ·simp only [List.getElem?_toArray, List.getElem?_cons_zero, List.getElem?_cons_succ]; rfl
    ·rfl
    ·intro _ hSw; (try dsimp only at hSw); go_simp <;> with_reducible rfl
    (try simp only [Act.put, List.setIfInBounds_toArray, List.set_cons_zero, List.set_cons_succ])
    refine wpAnyL_takeP (i := 14) [25] (oi := ?_) (v := ?_) ?_ (by kernel_rfl) (by kernel_rfl) (by kernel_rfl) (by kernel_rfl) (fun _ _ _ h => h) (Or.inl ⟨?_, ?_⟩) hHeld ?_
    rotate_left 2
    ·simp only [List.getElem?_toArray, List.getElem?_cons_zero, List.getElem?_cons_succ]; rfl
    ·rfl
    ·intro _ hSw; (try dsimp only at hSw); go_simp <;> with_reducible rfl
    (try simp only [Act.put, List.setIfInBounds_toArray, List.set_cons_zero, List.set_cons_succ])
    refine wpAnyL_takeP (i := 15) [22, 24, 25] (oi := ?_) (v := ?_) ?_ (by kernel_rfl) (by kernel_rfl) (by kernel_rfl) (by kernel_rfl) (fun _ _ _ h => h) (Or.inl ⟨?_, ?_⟩) hHeld ?_
    rotate_left 2
    ·simp only [List.getElem?_toArray, List.getElem?_cons_zero, List.getElem?_cons_succ]; rfl
    ·rfl
    ·intro _ hSw; (try dsimp only at hSw); go_simp <;> with_reducible rfl
    (try simp only [Act.put, List.setIfInBounds_toArray, List.set_cons_zero, List.set_cons_succ])
    refine wpAnyL_takeP (i := 16) [18, 19, 22, 24, 25] (oi := ?_) (v := ?_) ?_ (by kernel_rfl) (by kernel_rfl) (by kernel_rfl) (by kernel_rfl) (fun _ _ _ h => h) (Or.inl ⟨?_, ?_⟩) hHeld ?_
    rotate_left 2
    ·simp only [List.getElem?_toArray, List.getElem?_cons_zero, List.getElem?_cons_succ]; rfl
    ·rfl
    ·intro _ hSw; (try dsimp only at hSw); go_simp <;> with_reducible rfl
    (try simp only [Act.put, List.setIfInBounds_toArray, List.set_cons_zero, List.set_cons_succ])
    refine wpAnyL_takeP (i := 17) [18, 19, 22, 24, 25] (oi := ?_) (v := ?_) ?_ (by kernel_rfl) (by kernel_rfl) (by kernel_rfl) (by kernel_rfl) (fun _ _ _ h => h) (Or.inl ⟨?_, ?_⟩) hHeld ?_
    rotate_left 2
    ·simp only [List.getElem?_toArray, List.getElem?_cons_zero, List.getElem?_cons_succ]; rfl
    ·rfl
    ·intro _ hSw; (try dsimp only at hSw); go_simp <;> with_reducible rfl
    (try simp only [Act.put, List.setIfInBounds_toArray, List.set_cons_zero, List.set_cons_succ])
    refine wpAnyL_takeP (i := 18) [19, 22, 24, 25] (oi := ?_) (v := ?_) ?_ (by kernel_rfl) (by kernel_rfl) (by kernel_rfl) (by kernel_rfl) (fun _ _ _ h => h) (Or.inl ⟨?_, ?_⟩) hHeld ?_
    rotate_left 2
    ·simp only [List.getElem?_toArray, List.getElem?_cons_zero, List.getElem?_cons_succ]; rfl
    ·rfl
    ·intro _ hSw; (try dsimp only at hSw); go_simp <;> with_reducible rfl
    (try simp only [Act.put, List.setIfInBounds_toArray, List.set_cons_zero, List.set_cons_succ])
    refine wpAnyL_takeP (i := 19) [22, 24, 25] (oi := ?_) (v := ?_) ?_ (by kernel_rfl) (by kernel_rfl) (by kernel_rfl) (by kernel_rfl) (fun _ _ _ h => h) (Or.inl ⟨?_, ?_⟩) hHeld ?_
    rotate_left 2
    ·simp only [List.getElem?_toArray, List.getElem?_cons_zero, List.getElem?_cons_succ]; rfl
    ·rfl
    ·intro _ hSw; (try dsimp only at hSw); go_simp <;> with_reducible rfl
    (try simp only [Act.put, List.setIfInBounds_toArray, List.set_cons_zero, List.set_cons_succ])
    refine wpAnyL_takeP (i := 20) [21, 22, 24, 25] (oi := ?_) (v := ?_) ?_ (by kernel_rfl) (by kernel_rfl) (by kernel_rfl) (by kernel_rfl) (fun _ _ _ h => h) (Or.inl ⟨?_, ?_⟩) hHeld ?_
    rotate_left 2
    ·simp only [List.getElem?_toArray, List.getElem?_cons_zero, List.getElem?_cons_succ]; rfl
    ·rfl
    ·intro _ hSw; (try dsimp only at hSw); go_simp <;> with_reducible rfl
    (try simp only [Act.put, List.setIfInBounds_toArray, List.set_cons_zero, List.set_cons_succ])
    refine wpAnyL_takeP (i := 21) [22, 24, 25] (oi := ?_) (v := ?_) ?_ (by kernel_rfl) (by kernel_rfl) (by kernel_rfl) (by kernel_rfl) (fun _ _ _ h => h) (Or.inl ⟨?_, ?_⟩) hHeld ?_
    rotate_left 2
    ·simp only [List.getElem?_toArray, List.getElem?_cons_zero, List.getElem?_cons_succ]; rfl
    ·rfl
    ·intro _ hSw; (try dsimp only at hSw); go_simp <;> with_reducible rfl
    (try simp only [Act.put, List.setIfInBounds_toArray, List.set_cons_zero, List.set_cons_succ])
    refine wpAnyL_takeP (i := 23) [24, 25] (oi := ?_) (v := ?_) ?_ (by kernel_rfl) (by kernel_rfl) (by kernel_rfl) (by kernel_rfl) (fun _ _ _ h => h) (Or.inl ⟨?_, ?_⟩) hHeld ?_
    rotate_left 2
    ·simp only [List.getElem?_toArray, List.getElem?_cons_zero, List.getElem?_cons_succ]; rfl
    ·rfl
    ·intro _ hSw; (try dsimp only at hSw); go_simp <;> with_reducible rfl
    (try simp only [Act.put, List.setIfInBounds_toArray, List.set_cons_zero, List.set_cons_succ])
    refine wpAnyL_one (i := 22) (o := ?_) (by kernel_rfl) ?_ (fun K hK => ?_)
    rotate_left 1
    ·simp only [List.getElem?_toArray, List.getElem?_cons_zero, List.getElem?_cons_succ]; rfl
    clear hHeld
    go_simp
    (go_at_call 16; refine (HR.out).mono ?_; rintro e w4 ⟨rfl, rfl⟩)
    try go_wp2_with fail
    refine hK.out _ _ ?_ (fun hHeld => ?_)
    ·first | exact k0 | exact k1
    clear hK K
    (try simp only [Act.put, List.setIfInBounds_toArray, List.set_cons_zero, List.set_cons_succ])
    refine wpAnyL_takeP (i := 24) [25] (oi := ?_) (v := ?_) ?_ (by kernel_rfl) (by kernel_rfl) (by kernel_rfl) (by kernel_rfl) (fun _ _ _ h => h) (Or.inl ⟨?_, ?_⟩) hHeld ?_
    rotate_left 2
    ·simp only [List.getElem?_toArray, List.getElem?_cons_zero, List.getElem?_cons_succ]; rfl
    ·rfl
    ·intro _ hSw; (try dsimp only at hSw); go_simp <;> with_reducible rfl
    (try simp only [Act.put, List.setIfInBounds_toArray, List.set_cons_zero, List.set_cons_succ])
    refine wpAnyL_last (o := ?_) (by kernel_rfl) ?_ (fun K hK => ?_)
    rotate_left 1
    ·simp only [List.getElem?_toArray, List.getElem?_cons_zero, List.getElem?_cons_succ]; rfl
    clear hHeld
    go_simp
    refine hK.out _ _ ?_
    clear hK K
    (try simp only [Act.put, List.setIfInBounds_toArray, List.set_cons_zero, List.set_cons_succ])
    refine wpAnyL_done (by kernel_rfl) ?_ _
    refine NoPanic.normal ?_
    exact hK _ _ (Go.Met.intro (HJ.out _ _ ⟨HM3.out, HX3.out, hpF_eqP _ (by kernel_rfl) ⟨rfl, rfl, rfl, rfl, rfl, rfl, rfl, rfl⟩⟩))
end Go.Proofs.YtbcoejmiihgfoaaDoor
