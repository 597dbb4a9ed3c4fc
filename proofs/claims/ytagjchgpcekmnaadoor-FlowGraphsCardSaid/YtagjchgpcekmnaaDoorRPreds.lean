/- overdriveref5.Preds: the document's. -/
import Derived.Test.YtagjchgpcekmnaaDoorRClean
import Derived.Test.YtagjchgpcekmnaaDoorPreds
namespace Go.Proofs.YtagjchgpcekmnaaDoor
open Go.RowKit

theorem OwnL.drew {w : World} {G B gb : Nat} {vs : List Value} {xs : List (List Int)} (h : OwnL w G B gb vs xs) : OwnL w.drew G B gb vs xs := h.upd ((Upd.refl [] w).drew) (by simp) (by simp)

set_option maxRecDepth 100000 in
set_option maxHeartbeats 8000000 in
theorem rpreds_any (v : Value) (g : List (List Int)) (w : World) (h : RowsAt w v g) (hn : g.length ≤ 100000) (hr : ∀ l ∈ g, l.length ≤ 100000) :
    Calls Tryd.prog 25 #[v] w fun e w' => ∃ G B gb vs, e = .returned (.slice (some ⟨gb, 0, none⟩) g.length g.length) ∧ OwnL w' G B gb vs (intsL (predsL (cleanG g))) ∧ w.heap.size ≤ G ∧ Upd [] w w' := by
  obtain ⟨i0, hi, hz0, hz1, hz2⟩ := info_parts Tryd.infoInt
  have HI := Lib.hid hi
  have HZ0 := Lib.hid hz0
  have HZ1 := Lib.hid hz1
  have HZ2 := Lib.hid hz2
  clear hi hz0 hz1 hz2
  have HCLN := Lib.hid (rclean_any v g w h hn hr)
  have HCC := Lib.hid (cleanG_clean g)
  have HCLL := Lib.hid (cleanG_len g)
  have hclb : ∀ i, i < g.length → ((cleanG g).getD i []).length ≤ g.length := fun i hi => by
    rw [cleanG_get g i hi]; exact (crow_len _ _).1
  have HCLB := Lib.hid hclb
  obtain ⟨a, cap, rfl, hl, _⟩ := h
  unfold maxLen at hl
  clear hclb
  go_enter Tryd.func25, Tryd.ntmps25
  go_wp2_with fail
  refine HCLN.out.mono ?_
  rintro e w1 ⟨cv, cvs, rfl, hC, hu1⟩
  obtain ⟨cp, cc, rfl, _⟩ := hC.form
  have HC := Lib.hid hC
  have HU1 := Lib.hid hu1
  have hcl2 : (intsL (cleanG g)).length = g.length := by rw [intsL_len, cleanG_len]
  rw [hcl2] at HC ⊢
  have HL2 := Lib.hid hcl2
  have hmk := make_rows w1 g.length (by omega)
  have hu2 := (Upd.refl [] w1).alloc (.cells (List.replicate g.length (Value.slice none 0 0)).toArray 28)
  have hA : OwnL (w1.alloc (.cells (List.replicate g.length (Value.slice none 0 0)).toArray 28)) w1.heap.size (w1.alloc (.cells (List.replicate g.length (Value.slice none 0 0)).toArray 28)).heap.size w1.heap.size (List.replicate g.length (Value.slice none 0 0)) (List.replicate g.length []) := OwnL.made w1 _ _ _ (Nat.le_refl _) (by simp)
  have hz2 := World.size_alloc w1 (.cells (List.replicate g.length (Value.slice none 0 0)).toArray 28)
  have HP0 := Lib.hid (pst_zero (cleanG g))
  have HA := Lib.hid hA
  have HU2 := Lib.hid hu2
  have HC2 := Lib.hid (HC.out.upd hu2 (by simp) (by simp))
  have HCL1 : Hid (∀ i, i < g.length → ∃ rp rc, cvs.getD i undef = .slice rp ((cleanG g).getD i []).length rc) := fun i hi => by
    have := HC.out.own i (by rw [HL2.out]; exact hi)
    rw [intsL_get] at this
    obtain ⟨rp, rc, e⟩ := this.shape
    exact ⟨rp, rc, by rw [e, ints_len]⟩
  have HCLT : Hid (∀ i, i < g.length → ∀ k, (cvs.getD i undef).ownBlock = some k → k < w1.heap.size) := fun i hi k hk => ((HC.out.own i (by rw [HL2.out]; exact hi)).lt k hk).2
  rw [List.toArray_replicate] at HA HU2 hz2 hmk HC2
  clear hA hu2 hC hu1 hcl2
  generalize hcg : cleanG g = c at HC HC2 HCC HCLL HCLB HP0 HCL1 HL2
  have HCG0 := Lib.hid hcg
  clear hcg HCLN
  go_wp2_with fail
  generalize hw2 : w1.alloc (.cells (Array.replicate g.length (Value.slice none 0 0)) 28) = w2 at HA HU2 hz2 HC2 ⊢
  clear hw2 hmk
  go_loopw [5] (fun iv wr => ∃ (i : Nat) (vs : List Value), i ≤ g.length ∧ iv = .int .i64 i ∧ Hid (OwnL wr w1.heap.size w2.heap.size w1.heap.size vs (intsL (pst c i 0))) ∧ Hid (Upd [w1.heap.size] w2 wr)) (fun iv _ => g.length - (intOf iv).toNat)
  case atStart =>
    refine ⟨0, List.replicate g.length (Value.slice none 0 0), by omega, rfl, ?_, Upd.refl _ _⟩
    rw [HP0.out, HCLL.out]
    have : intsL (List.replicate g.length []) = List.replicate g.length [] := by simp [intsL, ints]
    rw [this]
    exact HA.out
  case round =>
    clear HA
    obtain ⟨i, vs, hi, rfl, HL, HU⟩ := hrel
    obtain ⟨wo, rfl⟩ : ∃ wo : World, wo = wr := ⟨_, rfl⟩
    by_cases hlt : i < g.length
    · obtain ⟨gc, e0, _, hgc0, hcx0⟩ := (show OwnR w1 w.heap.size (.slice cp (intsL c).length cc) cvs (intsL c) by rw [HL2.out]; exact HC.out).cell i (by rw [HL2.out]; exact hlt)
      subst e0
      obtain ⟨rp, rc, hrv⟩ := HCL1.out i hlt
      rw [hrv] at hcx0
      have hro := HC.out.own i (by rw [HL2.out]; exact hlt)
      rw [hrv, intsL_get] at hro
      have hrt := HCLT.out i hlt
      rw [hrv] at hrt
      have HRO := Lib.hid hro
      have HRT := Lib.hid hrt
      have HCX := Lib.hid (HU2.out.cell hcx0 (by simp))
      have hcx := HU.out.cell HCX.out (by simp; omega)
      have hgc : gc < w1.heap.size := hgc0
      have hlb := HCLB.out i hlt
      have HCK := Lib.hid (HCC.out i (by rw [HCLL.out]; exact hlt))
      have HROW := Lib.hid (pst_row c i)
      have HSTEP := Lib.hid (fun j hj => pst_step c HCC.out i j (by rw [HCLL.out]; exact hlt) hj)
      have HPB := Lib.hid (fun j k (hk : k < c.length) => pst_bd c i j k hk)
      clear hcx0 hro hrt hrv hgc0
      generalize hcl : c.getD i [] = l at hlb hcx HCX HRO HRT HCK HROW HSTEP
      have HCG := Lib.hid hcl
      clear hcl
      go_wp2_with fail
      go_loopw [6] (fun jv wr => ∃ (j : Nat) (vs : List Value), j ≤ l.length ∧ jv = .int .i64 j ∧ Hid (OwnL wr w1.heap.size w2.heap.size w1.heap.size vs (intsL (pst c i j))) ∧ Hid (Upd [w1.heap.size] w2 wr)) (fun jv _ => l.length - (intOf jv).toNat)
      case atStart => exact ⟨0, vs, by omega, rfl, HL, HU⟩
      case round =>
        clear HL HU hcx
        obtain ⟨j, vs, hj, rfl, HL, HU⟩ := hrel
        obtain ⟨wq, rfl⟩ : ∃ wq : World, wq = wr := ⟨_, rfl⟩
        have hcx := HU.out.cell HCX.out (by simp; omega)
        have hWq := HU.out.size
        by_cases hjl : j < l.length
        · obtain ⟨rb, rc2, e1, _, hrb0, hy0⟩ := HRO.out.nth j (by rw [ints_len]; exact hjl)
          injection e1 with e1 _ e3
          subst e1
          subst e3
          have hrb : rb < w1.heap.size := HRT.out rb rfl
          rw [ints_get _ _ hjl] at hy0
          have hy := HU.out.cell (HU2.out.cell hy0 (by simp)) (by simp; omega)
          have hkl : l.getD j 0 < c.length := HCK.out.2 _ (by
            rw [List.getD_eq_getElem?_getD, List.getElem?_eq_getElem hjl]
            exact List.getElem_mem hjl)
          have HSP := Lib.hid (HSTEP.out j hjl)
          have hpb := HPB.out j _ hkl
          have hkg : l.getD j 0 < g.length := by have := HCLL.out; omega
          clear hy0 hrb0
          generalize l.getD j 0 = k at hy hkl hkg HSP hpb
          have hkl2 : k < (intsL (pst c i j)).length := by rw [intsL_len, pst_len]; exact hkl
          have HST : Hid ((intsL (pst c i j)).set k ((intsL (pst c i j)).getD k [] ++ [(i : Int)]) = intsL (pst c i (j + 1))) := by
            show _ = _
            rw [intsL_get, ← ints_snoc, intsL_set, HSP.out]
          have hrow := HL.out.own k hkl2
          have hcv := HL.out.cell k hkl2
          have HVL : Hid (k < vs.length) := by show _ < _; rw [HL.out.len]; exact hkl2
          obtain ⟨pv, pc, hv⟩ := hrow.shape
          have hrow2 := World.ownsRow.drew hrow
          rw [hv] at hcv hrow2
          have hil : ((intsL (pst c i j)).getD k []).length ≤ 100001 := by rw [intsL_get, ints_len]; omega
          have HRW2 := Lib.hid hrow2
          have HVV := Lib.hid hv
          have hfz := froz_of HL.out.blk k
          clear hrow hrow2 hv HSP hpb
          generalize hrr : (intsL (pst c i j)).getD k [] = row at hcv HRW2 HVV HST hil
          have HRR := Lib.hid hrr
          clear hrr
          go_upto_region 9 with fail
          have hcx2 := fun o => ((Upd.refl [] wq).drew.alloc o).cell hcx (by simp)
          have hy2 := fun o => ((Upd.refl [] wq).drew.alloc o).cell hy (by simp)
          have hcv2 := fun o => ((Upd.refl [] wq).alloc o).cell hcv (by simp)
          refine wp_region_noPanic ?_
          refine wp_region_held_drew (S := fun w' => w'.cell? ⟨gc, i, none⟩ = some (.slice (some ⟨rb, 0, none⟩) l.length rc) ∧ w'.cell? ⟨rb, j, none⟩ = some (.int .i64 (k : Int))) (by kernel_rfl) ?_ (fun hHeld => ?_)
          · first | exact ⟨hcx, hy⟩ | exact ⟨hcx2 _, hy2 _⟩ | exact ⟨hk0, hk1⟩ | exact ⟨hs0 _, hs1 _⟩
          refine wpAnyH_take (i := 0) (oi := ?_) (v := ?_) ?_ (by kernel_rfl) (by kernel_rfl) (by kernel_rfl) (fun _ _ _ h => h) (Or.inl ⟨?_, ?_⟩) hHeld ?_
          rotate_left 2
          · simp only [List.getElem?_toArray, List.getElem?_cons_zero]; rfl
          · rfl
          · intro _ hSw; (try dsimp only at hSw); go_simp <;> with_reducible rfl
          (try simp only [Act.put, List.setIfInBounds_toArray, List.set_cons_zero, List.set_cons_succ])
          refine wpAnyH_take (i := 1) (oi := ?_) (v := ?_) ?_ (by kernel_rfl) (by kernel_rfl) (by kernel_rfl) (fun _ _ _ h => h) (Or.inl ⟨?_, ?_⟩) hHeld ?_
          rotate_left 2
          · simp only [List.getElem?_toArray, List.getElem?_cons_zero, List.getElem?_cons_succ]; rfl
          · rfl
          · intro _ hSw; (try dsimp only at hSw); go_simp <;> with_reducible rfl
          (try simp only [Act.put, List.setIfInBounds_toArray, List.set_cons_zero, List.set_cons_succ])
          refine wpAnyH_take (i := 2) (oi := ?_) (v := ?_) ?_ (by kernel_rfl) (by kernel_rfl) (by kernel_rfl) (fun _ _ _ h => h) (Or.inl ⟨?_, ?_⟩) hHeld ?_
          rotate_left 2
          · simp only [List.getElem?_toArray, List.getElem?_cons_zero, List.getElem?_cons_succ]; rfl
          · rfl
          · intro _ hSw; (try dsimp only at hSw); go_simp <;> with_reducible rfl
          (try simp only [Act.put, List.setIfInBounds_toArray, List.set_cons_zero, List.set_cons_succ])
          refine wpAnyH_take (i := 3) (oi := ?_) (v := ?_) ?_ (by kernel_rfl) (by kernel_rfl) (by kernel_rfl) (fun _ _ _ h => h) (Or.inl ⟨?_, ?_⟩) hHeld ?_
          rotate_left 2
          · simp only [List.getElem?_toArray, List.getElem?_cons_zero, List.getElem?_cons_succ]; rfl
          · rfl
          · intro _ hSw; (try dsimp only at hSw); go_simp <;> with_reducible rfl
          (try simp only [Act.put, List.setIfInBounds_toArray, List.set_cons_zero, List.set_cons_succ])
          refine wpAnyH_take (i := 4) (oi := ?_) (v := ?_) ?_ (by kernel_rfl) (by kernel_rfl) (by kernel_rfl) (fun _ _ _ h => h) (Or.inl ⟨?_, ?_⟩) hHeld ?_
          rotate_left 2
          · simp only [List.getElem?_toArray, List.getElem?_cons_zero, List.getElem?_cons_succ]; rfl
          · rfl
          · intro _ hSw; (try dsimp only at hSw); go_simp <;> with_reducible rfl
          (try simp only [Act.put, List.setIfInBounds_toArray, List.set_cons_zero, List.set_cons_succ])
          refine wpAnyH_take (i := 5) (oi := ?_) (v := ?_) ?_ (by kernel_rfl) (by kernel_rfl) (by kernel_rfl) (fun _ _ _ h => h) (Or.inl ⟨?_, ?_⟩) hHeld ?_
          rotate_left 2
          · simp only [List.getElem?_toArray, List.getElem?_cons_zero, List.getElem?_cons_succ]; rfl
          · rfl
          · intro _ hSw; (try dsimp only at hSw); go_simp <;> with_reducible rfl
          (try simp only [Act.put, List.setIfInBounds_toArray, List.set_cons_zero, List.set_cons_succ])
          refine wpAnyH_take (i := 6) (oi := ?_) (v := ?_) ?_ (by kernel_rfl) (by kernel_rfl) (by kernel_rfl) (fun _ _ _ h => h) (Or.inl ⟨?_, ?_⟩) hHeld ?_
          rotate_left 2
          · simp only [List.getElem?_toArray, List.getElem?_cons_zero, List.getElem?_cons_succ]; rfl
          · rfl
          · intro _ hSw; (try dsimp only at hSw); go_simp <;> with_reducible rfl
          (try simp only [Act.put, List.setIfInBounds_toArray, List.set_cons_zero, List.set_cons_succ])
          refine wpAnyH_take (i := 7) (oi := ?_) (v := ?_) ?_ (by kernel_rfl) (by kernel_rfl) (by kernel_rfl) (fun _ _ _ h => h) (Or.inl ⟨?_, ?_⟩) hHeld ?_
          rotate_left 2
          · simp only [List.getElem?_toArray, List.getElem?_cons_zero, List.getElem?_cons_succ]; rfl
          · rfl
          · intro _ hSw; (try dsimp only at hSw); go_simp <;> with_reducible rfl
          (try simp only [Act.put, List.setIfInBounds_toArray, List.set_cons_zero, List.set_cons_succ])
          refine wpAnyH_take (i := 8) (oi := ?_) (v := ?_) ?_ (by kernel_rfl) (by kernel_rfl) (by kernel_rfl) (fun _ _ _ h => h) (Or.inl ⟨?_, ?_⟩) hHeld ?_
          rotate_left 2
          · simp only [List.getElem?_toArray, List.getElem?_cons_zero, List.getElem?_cons_succ]; rfl
          · rfl
          · intro _ hSw; (try dsimp only at hSw); go_simp <;> with_reducible rfl
          (try simp only [Act.put, List.setIfInBounds_toArray, List.set_cons_zero, List.set_cons_succ])
          refine wpAnyH_take (i := 9) (oi := ?_) (v := ?_) ?_ (by kernel_rfl) (by kernel_rfl) (by kernel_rfl) (fun _ _ _ h => h) (Or.inl ⟨?_, ?_⟩) hHeld ?_
          rotate_left 2
          · simp only [List.getElem?_toArray, List.getElem?_cons_zero, List.getElem?_cons_succ]; rfl
          · rfl
          · intro _ hSw; (try dsimp only at hSw); go_simp <;> with_reducible rfl
          (try simp only [Act.put, List.setIfInBounds_toArray, List.set_cons_zero, List.set_cons_succ])
          refine wpAnyH_take (i := 10) (oi := ?_) (v := ?_) ?_ (by kernel_rfl) (by kernel_rfl) (by kernel_rfl) (fun _ _ _ h => h) (Or.inl ⟨?_, ?_⟩) hHeld ?_
          rotate_left 2
          · simp only [List.getElem?_toArray, List.getElem?_cons_zero, List.getElem?_cons_succ]; rfl
          · rfl
          · intro _ hSw; (try dsimp only at hSw); go_simp <;> with_reducible rfl
          (try simp only [Act.put, List.setIfInBounds_toArray, List.set_cons_zero, List.set_cons_succ])
          refine wpAnyH_take (i := 11) (oi := ?_) (v := ?_) ?_ (by kernel_rfl) (by kernel_rfl) (by kernel_rfl) (fun _ _ _ h => h) (Or.inl ⟨?_, ?_⟩) hHeld ?_
          rotate_left 2
          · simp only [List.getElem?_toArray, List.getElem?_cons_zero, List.getElem?_cons_succ]; rfl
          · rfl
          · intro _ hSw; (try dsimp only at hSw); go_simp <;> with_reducible rfl
          (try simp only [Act.put, List.setIfInBounds_toArray, List.set_cons_zero, List.set_cons_succ])
          refine wpAnyH_take (i := 12) (oi := ?_) (v := ?_) ?_ (by kernel_rfl) (by kernel_rfl) (by kernel_rfl) (fun _ _ _ h => h) (Or.inl ⟨?_, ?_⟩) hHeld ?_
          rotate_left 2
          · simp only [List.getElem?_toArray, List.getElem?_cons_zero, List.getElem?_cons_succ]; rfl
          · rfl
          · intro _ hSw; (try dsimp only at hSw); go_simp <;> with_reducible rfl
          (try simp only [Act.put, List.setIfInBounds_toArray, List.set_cons_zero, List.set_cons_succ])
          refine wpAnyH_take (i := 13) (oi := ?_) (v := ?_) ?_ (by kernel_rfl) (by kernel_rfl) (by kernel_rfl) (fun _ _ _ h => h) (Or.inl ⟨?_, ?_⟩) hHeld ?_
          rotate_left 2
          · simp only [List.getElem?_toArray, List.getElem?_cons_zero, List.getElem?_cons_succ]; rfl
          · rfl
          · intro _ hSw; (try dsimp only at hSw); go_simp <;> with_reducible rfl
          (try simp only [Act.put, List.setIfInBounds_toArray, List.set_cons_zero, List.set_cons_succ])
          refine wpAnyH_take (i := 14) (oi := ?_) (v := ?_) ?_ (by kernel_rfl) (by kernel_rfl) (by kernel_rfl) (fun _ _ _ h => h) (Or.inl ⟨?_, ?_⟩) hHeld ?_
          rotate_left 2
          · simp only [List.getElem?_toArray, List.getElem?_cons_zero, List.getElem?_cons_succ]; rfl
          · rfl
          · intro _ hSw; (try dsimp only at hSw); go_simp <;> with_reducible rfl
          (try simp only [Act.put, List.setIfInBounds_toArray, List.set_cons_zero, List.set_cons_succ])
          refine wpAnyH_take (i := 15) (oi := ?_) (v := ?_) ?_ (by kernel_rfl) (by kernel_rfl) (by kernel_rfl) (fun _ _ _ h => h) (Or.inl ⟨?_, ?_⟩) hHeld ?_
          rotate_left 2
          · simp only [List.getElem?_toArray, List.getElem?_cons_zero, List.getElem?_cons_succ]; rfl
          · rfl
          · intro _ hSw; (try dsimp only at hSw); go_simp <;> with_reducible rfl
          (try simp only [Act.put, List.setIfInBounds_toArray, List.set_cons_zero, List.set_cons_succ])
          refine wpAnyH_take (i := 16) (oi := ?_) (v := ?_) ?_ (by kernel_rfl) (by kernel_rfl) (by kernel_rfl) (fun _ _ _ h => h) (Or.inl ⟨?_, ?_⟩) hHeld ?_
          rotate_left 2
          · simp only [List.getElem?_toArray, List.getElem?_cons_zero, List.getElem?_cons_succ]; rfl
          · rfl
          · intro _ hSw; (try dsimp only at hSw); go_simp <;> with_reducible rfl
          (try simp only [Act.put, List.setIfInBounds_toArray, List.set_cons_zero, List.set_cons_succ])
          refine wpAnyH_take (i := 18) (oi := ?_) (v := ?_) ?_ (by kernel_rfl) (by kernel_rfl) (by kernel_rfl) (fun _ _ _ h => h) (Or.inl ⟨?_, ?_⟩) hHeld ?_
          rotate_left 2
          · simp only [List.getElem?_toArray, List.getElem?_cons_zero, List.getElem?_cons_succ]; rfl
          · rfl
          · intro _ hSw; (try dsimp only at hSw); go_simp <;> with_reducible rfl
          (try simp only [Act.put, List.setIfInBounds_toArray, List.set_cons_zero, List.set_cons_succ])
          refine wpAnyH_ready (rs := [17, 19]) (by kernel_rfl) (by simp) ?_
          refine (AllReadyH.cons (o := ?o17) ?ho17 (fun K hK => ?w17) (AllReadyH.cons (o := ?o19) ?ho19 (fun K hK => ?w19) AllReadyH.nil))
          case ho17 => (simp only [List.getElem?_toArray, List.getElem?_cons_zero, List.getElem?_cons_succ]; rfl)
          case ho19 => (simp only [List.getElem?_toArray, List.getElem?_cons_zero, List.getElem?_cons_succ]; rfl)
          case' w17 =>
            clear hHeld
            go_simp
            refine hK.out _ _ ?_ (fun hHeld => ?_)
            · first | exact ⟨hcx, hy⟩ | exact ⟨hcx2 _, hy2 _⟩ | exact ⟨hk0, hk1⟩ | exact ⟨hs0 _, hs1 _⟩
            clear hK K
            (try simp only [Act.put, List.setIfInBounds_toArray, List.set_cons_zero, List.set_cons_succ])
            refine wpAnyH_ready (rs := [19]) (by kernel_rfl) (by simp) ?_
            refine AllReadyH.cons (o := ?_) ?_ (fun K hK => ?_) AllReadyH.nil
            rotate_left 1
            · simp only [List.getElem?_toArray, List.getElem?_cons_zero, List.getElem?_cons_succ]; rfl
            clear hHeld
            go_simp
            refine hK.out _ _ ?_ (fun hHeld => ?_)
            · first | exact ⟨hcx, hy⟩ | exact ⟨hcx2 _, hy2 _⟩ | exact ⟨hk0, hk1⟩ | exact ⟨hs0 _, hs1 _⟩
            clear hK K
            (try simp only [Act.put, List.setIfInBounds_toArray, List.set_cons_zero, List.set_cons_succ])
          case' w19 =>
            clear hHeld
            go_simp
            refine hK.out _ _ ?_ (fun hHeld => ?_)
            · first | exact ⟨hcx, hy⟩ | exact ⟨hcx2 _, hy2 _⟩ | exact ⟨hk0, hk1⟩ | exact ⟨hs0 _, hs1 _⟩
            clear hK K
            (try simp only [Act.put, List.setIfInBounds_toArray, List.set_cons_zero, List.set_cons_succ])
            refine wpAnyH_ready (rs := [17]) (by kernel_rfl) (by simp) ?_
            refine AllReadyH.cons (o := ?_) ?_ (fun K hK => ?_) AllReadyH.nil
            rotate_left 1
            · simp only [List.getElem?_toArray, List.getElem?_cons_zero, List.getElem?_cons_succ]; rfl
            clear hHeld
            go_simp
            refine hK.out _ _ ?_ (fun hHeld => ?_)
            · first | exact ⟨hcx, hy⟩ | exact ⟨hcx2 _, hy2 _⟩ | exact ⟨hk0, hk1⟩ | exact ⟨hs0 _, hs1 _⟩
            clear hK K
            (try simp only [Act.put, List.setIfInBounds_toArray, List.set_cons_zero, List.set_cons_succ])
          all_goals
            refine wpAnyH_ready (rs := [20]) (by kernel_rfl) (by simp) ?_
            refine AllReadyH.cons (o := ?_) ?_ (fun K hK => ?_) AllReadyH.nil
            rotate_left 1
            · simp only [List.getElem?_toArray, List.getElem?_cons_zero, List.getElem?_cons_succ]; rfl
            clear hHeld
            (refine step_append_own_at rfl (.tmp 44) (.tmp 46) 28 rfl w2.heap.size 3 i0 (.int .i64 0) 1 8 Tryd.underlying28 HI.out HZ0.out HZ1.out HZ2.out rfl (by decide) _ _ _ rfl (HRW2.out.alloc _) ⟨wq.heap.size, 0, none⟩ 1 1 [.int .i64 (i : Int)] rfl rfl (cell_one_new _ _ _) (by simp [Value.oneCell']) (by unfold maxLen; omega) (by omega) (by simp; omega) ?_; intro v' w6 hown' hgrow hat; rw [← HVV.out] at hgrow hat; rw [← HRR.out] at hown'; obtain ⟨hb2, hL2, hu2, hge2⟩ := (HL.out.drew).push k hkl2 hown' hgrow hat; have hug := ((Upd.refl (vs.getD k undef).ownBlock.toList wq.drew).alloc _).grown hgrow (fun q hq => Or.inl (Option.mem_toList.2 hq)); have hk0 := hug.cell (p := ⟨gc, i, none⟩) hcx (fun hm => by have h9 : w2.heap.size ≤ gc := ((HL.out.own k hkl2).lt _ (Option.mem_toList.1 hm)).1; omega); have hk1 := hug.cell (p := ⟨rb, j, none⟩) hy (fun hm => by have h9 : w2.heap.size ≤ rb := ((HL.out.own k hkl2).lt _ (Option.mem_toList.1 hm)).1; omega); have hs0 := fun v => ((Upd.refl [w1.heap.size] w6).setCell (p := ⟨w1.heap.size, k, none⟩) (Or.inl (by simp)) v).cell hk0 (by simp; omega); have hs1 := fun v => ((Upd.refl [w1.heap.size] w6).setCell (p := ⟨w1.heap.size, k, none⟩) (Or.inl (by simp)) v).cell hk1 (by simp; omega); have hfz2 : w6.frozen? ⟨w1.heap.size, k, none⟩ = false := froz_of hb2 k; have hcc2 : w6.cell? ⟨w1.heap.size, k, none⟩ = some (vs.getD k undef) := (by rw [cell_of hb2 k]; simp [List.getD_eq_getElem?_getD, List.getElem?_eq_getElem HVL.out]); rw [HVV.out] at hcc2; rw [HRR.out, HST.out] at hL2; have HL3 := Lib.hid hL2; have HU3 : Hid (Upd [w1.heap.size] w2 (w6.setCell ⟨w1.heap.size, k, none⟩ v')) := HU.out.trans' ((Upd.refl _ wq).drew.trans hu2) (fun q hq hlt2 => by have := hge2 q hq; simp; omega); rw [HRR.out] at hown'; obtain ⟨g6, c6, rfl⟩ := ownsRow_succ hown'; clear hb2 hL2 hu2 hge2 hown' hgrow hat hug)
            refine hK.out _ _ ?_ (fun hHeld => ?_)
            · first | exact ⟨hcx, hy⟩ | exact ⟨hcx2 _, hy2 _⟩ | exact ⟨hk0, hk1⟩ | exact ⟨hs0 _, hs1 _⟩
            clear hK K
            (try simp only [Act.put, List.setIfInBounds_toArray, List.set_cons_zero, List.set_cons_succ])
            refine wpAnyH_take (i := 21) (oi := ?_) (v := ?_) ?_ (by kernel_rfl) (by kernel_rfl) (by kernel_rfl) (fun _ _ _ h => h) (Or.inl ⟨?_, ?_⟩) hHeld ?_
            rotate_left 2
            · simp only [List.getElem?_toArray, List.getElem?_cons_zero, List.getElem?_cons_succ]; rfl
            · rfl
            · intro _ hSw; (try dsimp only at hSw); go_simp <;> with_reducible rfl
            (try simp only [Act.put, List.setIfInBounds_toArray, List.set_cons_zero, List.set_cons_succ])
            refine wpAnyH_ready (rs := [22]) (by kernel_rfl) (by simp) ?_
            refine AllReadyH.cons (o := ?_) ?_ (fun K hK => ?_) AllReadyH.nil
            rotate_left 1
            · simp only [List.getElem?_toArray, List.getElem?_cons_zero, List.getElem?_cons_succ]; rfl
            clear hHeld
            go_simp
            refine hK.out _ _ ?_ (fun hHeld => ?_)
            · first | exact ⟨hcx, hy⟩ | exact ⟨hcx2 _, hy2 _⟩ | exact ⟨hk0, hk1⟩ | exact ⟨hs0 _, hs1 _⟩
            clear hK K
            (try simp only [Act.put, List.setIfInBounds_toArray, List.set_cons_zero, List.set_cons_succ])
            refine wpAnyH_done (by kernel_rfl) ?_ _
            refine NoPanic.normal ?_
            clear hHeld
            go_wp2_with fail
            go_roundw
            case rel => exact ⟨j + 1, _, by omega, by go_num, HL3, HU3⟩
            case measure => simp [intOf]; omega
        · obtain rfl : j = l.length := by omega
          have hL1 := HL.out
          rw [HROW.out] at hL1
          have HL1 := Lib.hid hL1
          clear hL1 HL
          go_wp2_with fail
          go_roundw
          case rel => exact ⟨i + 1, vs, by omega, by go_num, HL1, HU⟩
          case measure => simp [intOf]; omega
    · obtain rfl : i = g.length := by omega
      have HPA := pst_all c
      rw [HCLL.out] at HPA
      have hL1 := HL.out
      rw [HPA] at hL1
      have HL1 := Lib.hid hL1
      clear hL1 HL
      go_wp2_with fail
      go_ret
      exact ⟨_, _, _, vs, rfl, by rw [HCG0.out]; exact HL1.out, HU1.out.size, (HU1.out.trans HU2.out).trans' HU.out (fun q hq hlt2 => by simp at hq; have := HU1.out.size; omega)⟩

end Go.Proofs.YtagjchgpcekmnaaDoor
