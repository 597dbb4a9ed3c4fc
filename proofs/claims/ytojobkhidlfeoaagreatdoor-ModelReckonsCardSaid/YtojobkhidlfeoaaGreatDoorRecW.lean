/- overdrivelaw9.ModelReckons. -/
import Derived.Test.YtojobkhidlfeoaaGreatDoorFirst9
import Derived.Test.YtojobkhidlfeoaaGreatDoorMwX
import Derived.Test.YtojobkhidlfeoaaGreatDoorRef1T
namespace Go.Proofs.YtojobkhidlfeoaaGreatDoor
open Go.RowKit

set_option maxRecDepth 100000 in
set_option maxHeartbeats 4000000 in
theorem reckons_any (x a b : Int) (ha : in64 a) (hb : in64 b) (hx : in64 x) (E : Nat → Addr) (w : World) (hS : SentAt w E) :
    Calls Tryz.prog 4 #[.int .i64 x, .int .i64 a, .int .i64 b] w fun e w' => e = .returned (.bool true) ∧ Upd [] w w' := by
  have HF := Lib.hid (first9_any E w hS)
  have HS := Lib.hid hS
  have HA := Lib.hid ha
  have HB := Lib.hid hb
  have hx2 : -9223372036854775808 ≤ x ∧ x ≤ 9223372036854775807 := hx
  have hm1 : -13 < x.tmod 13 ∧ x.tmod 13 < 13 := by
    have h1 := Int.tmod_lt_of_pos x (show (0 : Int) < 13 by omega)
    have h2 : -13 < x.tmod 13 := by
      have := Int.lt_tmod_of_pos x (show (0 : Int) < 13 by omega)
      omega
    exact ⟨h2, h1⟩
  have s1 : IntKind.i64.wrap (x.tmod 13 + 13) = x.tmod 13 + 13 := IntWalk.i64_in _ (by omega)
  obtain ⟨k, hk⟩ : ∃ k, (x.tmod 13 + 13).tmod 13 = k := ⟨_, rfl⟩
  have hk2 : 0 ≤ k ∧ k < 13 := by
    rw [← hk]
    exact ⟨Int.tmod_nonneg _ (by omega), Int.tmod_lt_of_pos _ (by omega)⟩
  have s2 : IntKind.i64.wrap (8 + k) = 8 + k := IntWalk.i64_in _ (by omega)
  obtain ⟨op, hop⟩ : ∃ op, 8 + k = op := ⟨_, rfl⟩
  rw [hop] at s2
  have hop2 : op = 8 ∨ op = 9 ∨ op = 10 ∨ op = 11 ∨ op = 12 ∨ op = 13 ∨ op = 14 ∨ op = 15 ∨ op = 16 ∨ op = 17 ∨ op = 18 ∨ op = 19 ∨ op = 20 := by omega
  have HOP := Lib.hid hop2
  have HTW := Lib.hid (fun W => r1two_any op a b hop2 W)
  obtain ⟨tv, tt, htt⟩ : ∃ tv tt, twoL op a b = (tv, tt) := ⟨_, _, rfl⟩
  rw [htt] at HTW
  have HTT := Lib.hid htt
  clear hS ha hb hx hx2 hm1 hk2 hop2 htt
  go_enter Tryz.func4, Tryz.ntmps4
  go_wp2_with fail
  refine HF.out.mono ?_
  rintro e w1 ⟨rfl, hu1⟩
  have HSZ1 := Lib.hid hu1.size
  have hu2 := hu1.alloc (.cells #[.int .i64 1, .int .i64 0, .int .i64 0, .int .i64 a, .int .i64 1, .int .i64 0, .int .i64 0, .int .i64 b, .int .i64 op, .int .i64 0, .int .i64 0, .int .i64 0, .int .i64 33, .int .i64 0, .int .i64 0, .int .i64 0] 46)
  have HW := Lib.hid hu2
  have HSW := Lib.hid (HS.out.upd hu2)
  have HCO0 := Lib.hid (code_lit w1 [⟨1, 0, 0, a⟩, ⟨1, 0, 0, b⟩, ⟨op, 0, 0, 0⟩, ⟨33, 0, 0, 0⟩] (by simp) (fun i hi => by
    have h4 : i = 0 ∨ i = 1 ∨ i = 2 ∨ i = 3 := by have h : i < 4 := hi; omega
    have hb0 : 8 ≤ op ∧ op ≤ 20 := by have := HOP.out; omega
    rcases h4 with rfl | rfl | rfl | rfl
    · exact ins_bd (by omega) HA.out
    · exact ins_bd (by omega) HB.out
    · exact ins_bd (by omega) in_0
    · exact ins_bd (by omega) in_0))
  have HCO : Hid (CodeAt (w1.alloc (.cells #[.int .i64 1, .int .i64 0, .int .i64 0, .int .i64 a, .int .i64 1, .int .i64 0, .int .i64 0, .int .i64 b, .int .i64 op, .int .i64 0, .int .i64 0, .int .i64 0, .int .i64 33, .int .i64 0, .int .i64 0, .int .i64 0] 46)) (.slice (some ⟨w1.heap.size, 0, none⟩) 4 4) [⟨1, 0, 0, a⟩, ⟨1, 0, 0, b⟩, ⟨op, 0, 0, 0⟩, ⟨33, 0, 0, 0⟩]) := HCO0.out
  have HHP := Lib.hid (heap_alloc_new w1 (.cells #[.int .i64 1, .int .i64 0, .int .i64 0, .int .i64 a, .int .i64 1, .int .i64 0, .int .i64 0, .int .i64 b, .int .i64 op, .int .i64 0, .int .i64 0, .int .i64 0, .int .i64 33, .int .i64 0, .int .i64 0, .int .i64 0] 46))
  clear hu1 hu2 HCO0
  go_upto_region 4 with fail
  generalize w1.alloc (.cells #[.int .i64 1, .int .i64 0, .int .i64 0, .int .i64 a, .int .i64 1, .int .i64 0, .int .i64 0, .int .i64 b, .int .i64 op, .int .i64 0, .int .i64 0, .int .i64 0, .int .i64 33, .int .i64 0, .int .i64 0, .int .i64 0] 46) = w5 at HW HSW HCO HHP ⊢
  obtain ⟨cb, hcb⟩ : ∃ cb, w1.heap.size = cb := ⟨_, rfl⟩
  rw [hcb] at HCO HHP ⊢
  have HCB : Hid (w.heap.size ≤ cb) := by
    show _ ≤ _
    rw [← hcb]
    exact HSZ1.out
  clear hcb
  go_wp2_with fail
  refine (HTW.out w5).mono ?_
  rintro e w5' ⟨rfl, rfl⟩
  by_cases h18 : op = 18
  · subst h18
    clear HTW HTT hk hop s1 s2
    have y8 : w5.cell? ⟨cb, 8, none⟩ = some (.int .i64 18) := by rw [cell_of HHP.out]; rfl
    have y9 : w5.cell? ⟨cb, 9, none⟩ = some (.int .i64 0) := by rw [cell_of HHP.out]; rfl
    have y10 : w5.cell? ⟨cb, 10, none⟩ = some (.int .i64 0) := by rw [cell_of HHP.out]; rfl
    have y11 : w5.cell? ⟨cb, 11, none⟩ = some (.int .i64 0) := by rw [cell_of HHP.out]; rfl
    have yz := froz_of HHP.out
    have HH6 := Lib.hid (heap_setCell (heap_setCell (heap_setCell (heap_setCell HHP.out 8 (.int .i64 18)) 9 (.int .i64 0)) 10 (.int .i64 0)) 11 (.int .i64 0))
    have HW6 : Hid (Upd [cb] w5 ((((w5.setCell ⟨cb, 8, none⟩ (.int .i64 18)).setCell ⟨cb, 9, none⟩ (.int .i64 0)).setCell ⟨cb, 10, none⟩ (.int .i64 0)).setCell ⟨cb, 11, none⟩ (.int .i64 0))) := ((((Upd.refl [cb] w5).setCell (.inl (by simp)) _).setCell (.inl (by simp)) _).setCell (.inl (by simp)) _).setCell (.inl (by simp)) _
    obtain ⟨nv, hnv⟩ : ∃ nv, IntKind.i64.wrap (-a) = nv := ⟨_, rfl⟩
    have hnv2 : wrap64 (-a) = nv := by rw [← i64_w]; exact hnv
    go_upto_region 7 with fail
    generalize ((((w5.setCell ⟨cb, 8, none⟩ (.int .i64 18)).setCell ⟨cb, 9, none⟩ (.int .i64 0)).setCell ⟨cb, 10, none⟩ (.int .i64 0)).setCell ⟨cb, 11, none⟩ (.int .i64 0)) = w6 at HH6 HW6 ⊢
    clear y8 y9 y10 y11 yz
    have HH6d : Hid (w6.drew.heap[cb]? = _) := HH6.out
    have k0 : w6.drew.cell? ⟨cb, 0, none⟩ = some (.int .i64 1) ∧ w6.drew.cell? ⟨cb, 1, none⟩ = some (.int .i64 0) ∧ w6.drew.cell? ⟨cb, 2, none⟩ = some (.int .i64 0) ∧ w6.drew.cell? ⟨cb, 3, none⟩ = some (.int .i64 a) ∧ w6.drew.cell? ⟨cb, 8, none⟩ = some (.int .i64 18) ∧ w6.drew.cell? ⟨cb, 9, none⟩ = some (.int .i64 0) ∧ w6.drew.cell? ⟨cb, 10, none⟩ = some (.int .i64 0) ∧ w6.drew.cell? ⟨cb, 11, none⟩ = some (.int .i64 0) ∧ w6.drew.cell? ⟨cb, 12, none⟩ = some (.int .i64 33) ∧ w6.drew.cell? ⟨cb, 13, none⟩ = some (.int .i64 0) ∧ w6.drew.cell? ⟨cb, 14, none⟩ = some (.int .i64 0) ∧ w6.drew.cell? ⟨cb, 15, none⟩ = some (.int .i64 0) := ⟨by rw [cell_of HH6d.out]; rfl, by rw [cell_of HH6d.out]; rfl, by rw [cell_of HH6d.out]; rfl, by rw [cell_of HH6d.out]; rfl, by rw [cell_of HH6d.out]; rfl, by rw [cell_of HH6d.out]; rfl, by rw [cell_of HH6d.out]; rfl, by rw [cell_of HH6d.out]; rfl, by rw [cell_of HH6d.out]; rfl, by rw [cell_of HH6d.out]; rfl, by rw [cell_of HH6d.out]; rfl, by rw [cell_of HH6d.out]; rfl⟩
    have k1 : ∀ O, (w6.drew.alloc O).cell? ⟨cb, 0, none⟩ = some (.int .i64 1) ∧ (w6.drew.alloc O).cell? ⟨cb, 1, none⟩ = some (.int .i64 0) ∧ (w6.drew.alloc O).cell? ⟨cb, 2, none⟩ = some (.int .i64 0) ∧ (w6.drew.alloc O).cell? ⟨cb, 3, none⟩ = some (.int .i64 a) ∧ (w6.drew.alloc O).cell? ⟨cb, 8, none⟩ = some (.int .i64 18) ∧ (w6.drew.alloc O).cell? ⟨cb, 9, none⟩ = some (.int .i64 0) ∧ (w6.drew.alloc O).cell? ⟨cb, 10, none⟩ = some (.int .i64 0) ∧ (w6.drew.alloc O).cell? ⟨cb, 11, none⟩ = some (.int .i64 0) ∧ (w6.drew.alloc O).cell? ⟨cb, 12, none⟩ = some (.int .i64 33) ∧ (w6.drew.alloc O).cell? ⟨cb, 13, none⟩ = some (.int .i64 0) ∧ (w6.drew.alloc O).cell? ⟨cb, 14, none⟩ = some (.int .i64 0) ∧ (w6.drew.alloc O).cell? ⟨cb, 15, none⟩ = some (.int .i64 0) := fun O => by
      have hu7 := (Upd.refl [] w6.drew).alloc O
      exact ⟨hu7.cell (by rw [cell_of HH6d.out]; rfl) (by simp), hu7.cell (by rw [cell_of HH6d.out]; rfl) (by simp), hu7.cell (by rw [cell_of HH6d.out]; rfl) (by simp), hu7.cell (by rw [cell_of HH6d.out]; rfl) (by simp), hu7.cell (by rw [cell_of HH6d.out]; rfl) (by simp), hu7.cell (by rw [cell_of HH6d.out]; rfl) (by simp), hu7.cell (by rw [cell_of HH6d.out]; rfl) (by simp), hu7.cell (by rw [cell_of HH6d.out]; rfl) (by simp), hu7.cell (by rw [cell_of HH6d.out]; rfl) (by simp), hu7.cell (by rw [cell_of HH6d.out]; rfl) (by simp), hu7.cell (by rw [cell_of HH6d.out]; rfl) (by simp), hu7.cell (by rw [cell_of HH6d.out]; rfl) (by simp)⟩
    refine wp_region_noPanic ?_
    refine wp_region_L (S := fun w' => w'.cell? ⟨cb, 0, none⟩ = some (.int .i64 1) ∧ w'.cell? ⟨cb, 1, none⟩ = some (.int .i64 0) ∧ w'.cell? ⟨cb, 2, none⟩ = some (.int .i64 0) ∧ w'.cell? ⟨cb, 3, none⟩ = some (.int .i64 a) ∧ w'.cell? ⟨cb, 8, none⟩ = some (.int .i64 18) ∧ w'.cell? ⟨cb, 9, none⟩ = some (.int .i64 0) ∧ w'.cell? ⟨cb, 10, none⟩ = some (.int .i64 0) ∧ w'.cell? ⟨cb, 11, none⟩ = some (.int .i64 0) ∧ w'.cell? ⟨cb, 12, none⟩ = some (.int .i64 33) ∧ w'.cell? ⟨cb, 13, none⟩ = some (.int .i64 0) ∧ w'.cell? ⟨cb, 14, none⟩ = some (.int .i64 0) ∧ w'.cell? ⟨cb, 15, none⟩ = some (.int .i64 0)) 10 (by kernel_rfl) ?_ (fun hHeld => ?_)
    · first | (with_reducible exact k0) | exact k1 _
    refine wpAnyL_takeP (i := 0) [10] (oi := ?_) (v := ?_) ?_ (by kernel_rfl) (by kernel_rfl) (by kernel_rfl) (by kernel_rfl) (fun _ _ _ h => h) (Or.inl ⟨?_, ?_⟩) hHeld ?_
    rotate_left 2
    · simp only [List.getElem?_toArray, List.getElem?_cons_zero]; rfl
    · rfl
    · intro _ hSw; (try dsimp only at hSw); go_simp <;> with_reducible rfl
    (try simp only [Act.put, List.setIfInBounds_toArray, List.set_cons_zero, List.set_cons_succ])
    refine wpAnyL_takeP (i := 1) [10] (oi := ?_) (v := ?_) ?_ (by kernel_rfl) (by kernel_rfl) (by kernel_rfl) (by kernel_rfl) (fun _ _ _ h => h) (Or.inl ⟨?_, ?_⟩) hHeld ?_
    rotate_left 2
    · simp only [List.getElem?_toArray, List.getElem?_cons_zero, List.getElem?_cons_succ]; rfl
    · rfl
    · intro _ hSw; (try dsimp only at hSw); go_simp <;> with_reducible rfl
    (try simp only [Act.put, List.setIfInBounds_toArray, List.set_cons_zero, List.set_cons_succ])
    refine wpAnyL_takeP (i := 2) [10] (oi := ?_) (v := ?_) ?_ (by kernel_rfl) (by kernel_rfl) (by kernel_rfl) (by kernel_rfl) (fun _ _ _ h => h) (Or.inl ⟨?_, ?_⟩) hHeld ?_
    rotate_left 2
    · simp only [List.getElem?_toArray, List.getElem?_cons_zero, List.getElem?_cons_succ]; rfl
    · rfl
    · intro _ hSw; (try dsimp only at hSw); go_simp <;> with_reducible rfl
    (try simp only [Act.put, List.setIfInBounds_toArray, List.set_cons_zero, List.set_cons_succ])
    refine wpAnyL_takeP (i := 3) [10] (oi := ?_) (v := ?_) ?_ (by kernel_rfl) (by kernel_rfl) (by kernel_rfl) (by kernel_rfl) (fun _ _ _ h => h) (Or.inl ⟨?_, ?_⟩) hHeld ?_
    rotate_left 2
    · simp only [List.getElem?_toArray, List.getElem?_cons_zero, List.getElem?_cons_succ]; rfl
    · rfl
    · intro _ hSw; (try dsimp only at hSw); go_simp <;> with_reducible rfl
    (try simp only [Act.put, List.setIfInBounds_toArray, List.set_cons_zero, List.set_cons_succ])
    refine wpAnyL_takeP (i := 4) [10] (oi := ?_) (v := ?_) ?_ (by kernel_rfl) (by kernel_rfl) (by kernel_rfl) (by kernel_rfl) (fun _ _ _ h => h) (Or.inl ⟨?_, ?_⟩) hHeld ?_
    rotate_left 2
    · simp only [List.getElem?_toArray, List.getElem?_cons_zero, List.getElem?_cons_succ]; rfl
    · rfl
    · intro _ hSw; (try dsimp only at hSw); go_simp <;> with_reducible rfl
    (try simp only [Act.put, List.setIfInBounds_toArray, List.set_cons_zero, List.set_cons_succ])
    refine wpAnyL_takeP (i := 5) [10] (oi := ?_) (v := ?_) ?_ (by kernel_rfl) (by kernel_rfl) (by kernel_rfl) (by kernel_rfl) (fun _ _ _ h => h) (Or.inl ⟨?_, ?_⟩) hHeld ?_
    rotate_left 2
    · simp only [List.getElem?_toArray, List.getElem?_cons_zero, List.getElem?_cons_succ]; rfl
    · rfl
    · intro _ hSw; (try dsimp only at hSw); go_simp <;> with_reducible rfl
    (try simp only [Act.put, List.setIfInBounds_toArray, List.set_cons_zero, List.set_cons_succ])
    refine wpAnyL_takeP (i := 6) [10] (oi := ?_) (v := ?_) ?_ (by kernel_rfl) (by kernel_rfl) (by kernel_rfl) (by kernel_rfl) (fun _ _ _ h => h) (Or.inl ⟨?_, ?_⟩) hHeld ?_
    rotate_left 2
    · simp only [List.getElem?_toArray, List.getElem?_cons_zero, List.getElem?_cons_succ]; rfl
    · rfl
    · intro _ hSw; (try dsimp only at hSw); go_simp <;> with_reducible rfl
    (try simp only [Act.put, List.setIfInBounds_toArray, List.set_cons_zero, List.set_cons_succ])
    refine wpAnyL_takeP (i := 7) [10] (oi := ?_) (v := ?_) ?_ (by kernel_rfl) (by kernel_rfl) (by kernel_rfl) (by kernel_rfl) (fun _ _ _ h => h) (Or.inl ⟨?_, ?_⟩) hHeld ?_
    rotate_left 2
    · simp only [List.getElem?_toArray, List.getElem?_cons_zero, List.getElem?_cons_succ]; rfl
    · rfl
    · intro _ hSw; (try dsimp only at hSw); go_simp <;> with_reducible rfl
    (try simp only [Act.put, List.setIfInBounds_toArray, List.set_cons_zero, List.set_cons_succ])
    refine wpAnyL_takeP (i := 8) [10] (oi := ?_) (v := ?_) ?_ (by kernel_rfl) (by kernel_rfl) (by kernel_rfl) (by kernel_rfl) (fun _ _ _ h => h) (Or.inl ⟨?_, ?_⟩) hHeld ?_
    rotate_left 2
    · simp only [List.getElem?_toArray, List.getElem?_cons_zero, List.getElem?_cons_succ]; rfl
    · rfl
    · intro _ hSw; (try dsimp only at hSw); go_simp <;> with_reducible rfl
    (try simp only [Act.put, List.setIfInBounds_toArray, List.set_cons_zero, List.set_cons_succ])
    refine wpAnyL_one (i := 9) (o := ?_) (by kernel_rfl) ?_ (fun K hK => ?_)
    rotate_left 1
    · simp only [List.getElem?_toArray, List.getElem?_cons_zero, List.getElem?_cons_succ]; rfl
    clear hHeld
    go_simp
    refine hK.out _ _ ?_ (fun hHeld => ?_)
    · first | (with_reducible exact k0) | exact k1 _
    clear hK K
    (try simp only [Act.put, List.setIfInBounds_toArray, List.set_cons_zero, List.set_cons_succ])
    refine wpAnyL_last (o := ?_) (by kernel_rfl) ?_ (fun K hK => ?_)
    rotate_left 1
    · simp only [List.getElem?_toArray, List.getElem?_cons_zero, List.getElem?_cons_succ]; rfl
    clear hHeld
    go_simp
    refine hK.out _ _ ?_
    clear hK K
    (try simp only [Act.put, List.setIfInBounds_toArray, List.set_cons_zero, List.set_cons_succ])
    refine wpAnyL_done (by kernel_rfl) ?_ _
    refine NoPanic.normal ?_
    have HW7 : Hid (Upd [] w (w6.alloc (.cells #[.int .i64 1, .int .i64 0, .int .i64 0, .int .i64 a, .int .i64 18, .int .i64 0, .int .i64 0, .int .i64 0, .int .i64 33, .int .i64 0, .int .i64 0, .int .i64 0] 46)).drew) := ((HW.out.trans' HW6.out (fun q hq hl => by rw [List.mem_singleton] at hq; have := HCB.out; omega)).alloc _).drew
    have HCO7 := Lib.hid (code_lit w6 [⟨1, 0, 0, a⟩, ⟨18, 0, 0, 0⟩, ⟨33, 0, 0, 0⟩] (by simp) (fun i hi => by
      have h4 : i = 0 ∨ i = 1 ∨ i = 2 := by have h : i < 3 := hi; omega
      rcases h4 with rfl | rfl | rfl
      · exact ins_bd (by omega) HA.out
      · exact ins_bd (by omega) in_0
      · exact ins_bd (by omega) in_0))
    have HCO8 : Hid (CodeAt (w6.alloc (.cells #[.int .i64 1, .int .i64 0, .int .i64 0, .int .i64 a, .int .i64 18, .int .i64 0, .int .i64 0, .int .i64 0, .int .i64 33, .int .i64 0, .int .i64 0, .int .i64 0] 46)).drew (.slice (some ⟨w6.heap.size, 0, none⟩) 3 3) [⟨1, 0, 0, a⟩, ⟨18, 0, 0, 0⟩, ⟨33, 0, 0, 0⟩]) := HCO7.out.upd ((Upd.refl [] _).drew)
    clear k0 k1 HCO7
    go_upto_region 9 with fail
    generalize (w6.alloc (.cells #[.int .i64 1, .int .i64 0, .int .i64 0, .int .i64 a, .int .i64 18, .int .i64 0, .int .i64 0, .int .i64 0, .int .i64 33, .int .i64 0, .int .i64 0, .int .i64 0] 46)).drew = w7' at HW7 HCO8 ⊢
    obtain ⟨cb2, hcb2⟩ : ∃ cb2, w6.heap.size = cb2 := ⟨_, rfl⟩
    rw [hcb2] at HCO8 ⊢
    have hrun := negP_run HA.out
    rw [hnv] at hrun
    have HVF := Lib.hid (negP_ok HA.out)
    have HR1 := Lib.hid hrun.1
    have HR2 : Hid (((Mc.new (negP a) [] 0).run (negP a)).fin.getD ⟨0, 0, 0, 0, 0⟩ = ⟨1, 0, 0, 0, nv⟩) := by
      show _ = _
      rw [hrun.2]
      rfl
    have HSW7 : Hid (SentAt w7' E) := HS.out.upd HW7.out
    clear hrun hnv hnv2 hcb2
    have hML := meths_lit w7' [⟨ByteArray.empty, ByteArray.empty, bs [73], [⟨1, 0, 0, a⟩, ⟨18, 0, 0, 0⟩, ⟨33, 0, 0, 0⟩]⟩] [.slice (some ⟨cb2, 0, none⟩) 3 3] rfl (by simp) (fun i hi => by
      obtain rfl : i = 0 := by simpa using hi
      exact ⟨by show (0 : Nat) ≤ _; omega, by show (0 : Nat) ≤ _; omega, by show (1 : Nat) ≤ _; decide⟩) (fun i hi => by
      obtain rfl : i = 0 := by simpa using hi
      exact HCO8.out)
    have hML2 : MethsAt (w7'.alloc (.cells #[.string ⟨#[]⟩, .string ⟨#[]⟩, .string ⟨#[73]⟩, .slice (some ⟨cb2, 0, none⟩) 3 3] 53)) (.slice (some ⟨w7'.heap.size, 0, none⟩) 1 1) [⟨ByteArray.empty, ByteArray.empty, bs [73], [⟨1, 0, 0, a⟩, ⟨18, 0, 0, 0⟩, ⟨33, 0, 0, 0⟩]⟩] := hML
    have hua := (Upd.refl [] w7').alloc (.cells #[.string ⟨#[]⟩, .string ⟨#[]⟩, .string ⟨#[73]⟩, .slice (some ⟨cb2, 0, none⟩) 3 3] 53)
    have HRUN := Lib.hid (mlaw_run (negP a) (.slice none 0 0) (.slice (some ⟨w7'.heap.size, 0, none⟩) 1 1) E _ (HSW7.out.upd hua) (class_nil _) hML2 HVF.out.ok (fun j hj => ⟨_, HVF.out.look.look j hj⟩) HVF.out.bd none 0 0 0 [] (lng_nil _) (fun _ => rfl) (by simp) (by simp) 0 (by omega))
    have HUA := Lib.hid (HW7.out.trans hua)
    clear hML hML2 hua

    go_wp2_with fail
    refine HRUN.out.mono ?_
    rintro e w7 ⟨q, vc, he, ho7, hu7⟩
    unfold outcells at he
    rw [HR1.out, HR2.out] at he
    have he2 : e = .returned (.tuple #[.agg #[.int .i64 1, .int .i64 0, .int .i64 0, .int .i64 0, .int .i64 nv, .slice q 0 vc], .bool true]) := he
    subst he2
    clear he
    rw [HR1.out] at ho7
    obtain ⟨qb, hq, _⟩ := OwnI.ints ho7
    have hu8 := (Upd.refl [] w7).alloc (.cells #[.int .i64 1, .int .i64 0, .int .i64 0, .int .i64 0, .int .i64 nv, .slice q 0 vc] 37)
    have HO8 := Lib.hid (heap_alloc_new w7 (.cells #[.int .i64 1, .int .i64 0, .int .i64 0, .int .i64 0, .int .i64 nv, .slice q 0 vc] 37))
    have HQ8 := Lib.hid (hq.upd hu8 (by simp))
    have HU8 := Lib.hid ((HUA.out.trans hu7).trans hu8)
    clear ho7 hu7 hu8 hq
    go_upto_region 10 with fail
    generalize w7.alloc (.cells #[.int .i64 1, .int .i64 0, .int .i64 0, .int .i64 0, .int .i64 nv, .slice q 0 vc] 37) = w8 at HO8 HQ8 HU8 ⊢
    obtain ⟨rb, hrb⟩ : ∃ rb, w7.heap.size = rb := ⟨_, rfl⟩
    rw [hrb] at HO8 ⊢
    clear hrb
    have c0 : w8.cell? ⟨rb, 0, none⟩ = some (.int .i64 1) := by rw [cell_of HO8.out]; rfl
    have c1 : w8.cell? ⟨rb, 1, none⟩ = some (.int .i64 0) := by rw [cell_of HO8.out]; rfl
    have c2 : w8.cell? ⟨rb, 2, none⟩ = some (.int .i64 0) := by rw [cell_of HO8.out]; rfl
    have c3 : w8.cell? ⟨rb, 3, none⟩ = some (.int .i64 0) := by rw [cell_of HO8.out]; rfl
    have c4 : w8.cell? ⟨rb, 4, none⟩ = some (.int .i64 nv) := by rw [cell_of HO8.out]; rfl
    have c5 : w8.cell? ⟨rb, 5, none⟩ = some (.slice q 0 vc) := by rw [cell_of HO8.out]; rfl
    have HSO : Hid (Calls Tryz.prog 17 #[.agg #[.int .i64 1, .int .i64 0, .int .i64 0, .int .i64 0, .int .i64 nv, .slice q 0 vc], .agg #[.int .i64 1, .int .i64 0, .int .i64 0, .int .i64 0, .int .i64 nv, .slice none 0 0]] w8 fun e w' => e = .returned (.bool true) ∧ Upd [] w8 w') := by
      have h2 : IntsV w8 (.slice none 0 0) 0 [] := ⟨.inl ⟨rfl, rfl⟩, by simp⟩
      have h3 := souts_any HQ8.out h2 (by simp) (1) (0) (0) (0) (nv) (1) (0) (0) (0) (nv)
      simp at h3
      exact h3
    go_wp2_with fail
    refine HSO.out.mono ?_
    rintro e w9 ⟨rfl, hu9⟩
    have HU9 := Lib.hid (HU8.out.trans hu9)
    clear hu9
    go_wp2_with fail
    go_ret
    exact ⟨rfl, HU9.out⟩
  · have hrun := twoP_run (op := op) (a := a) (b := b) (by have := HOP.out; omega) HA.out HB.out
    rw [HTT.out] at hrun
    have HVF := Lib.hid (twoP_ok (op := op) (a := a) (b := b) (by have := HOP.out; omega) HA.out HB.out)
    have HR1 := Lib.hid hrun.1
    have hfin := hrun.2
    clear hrun hk hop s1 s2
    by_cases ht : tt = 0
    · subst ht
      have HR2 : Hid (((Mc.new (twoP op a b) [] 0).run (twoP op a b)).fin.getD ⟨0, 0, 0, 0, 0⟩ = ⟨1, 0, 0, 0, tv⟩) := by
        show _ = _
        rw [hfin]
        rfl
      clear hfin
      have hML := meths_lit w5 [⟨ByteArray.empty, ByteArray.empty, bs [73], [⟨1, 0, 0, a⟩, ⟨1, 0, 0, b⟩, ⟨op, 0, 0, 0⟩, ⟨33, 0, 0, 0⟩]⟩] [.slice (some ⟨cb, 0, none⟩) 4 4] rfl (by simp) (fun i hi => by
        obtain rfl : i = 0 := by simpa using hi
        exact ⟨by show (0 : Nat) ≤ _; omega, by show (0 : Nat) ≤ _; omega, by show (1 : Nat) ≤ _; decide⟩) (fun i hi => by
        obtain rfl : i = 0 := by simpa using hi
        exact HCO.out)
      have hML2 : MethsAt (w5.alloc (.cells #[.string ⟨#[]⟩, .string ⟨#[]⟩, .string ⟨#[73]⟩, .slice (some ⟨cb, 0, none⟩) 4 4] 53)) (.slice (some ⟨w5.heap.size, 0, none⟩) 1 1) [⟨ByteArray.empty, ByteArray.empty, bs [73], [⟨1, 0, 0, a⟩, ⟨1, 0, 0, b⟩, ⟨op, 0, 0, 0⟩, ⟨33, 0, 0, 0⟩]⟩] := hML
      have hua := (Upd.refl [] w5).alloc (.cells #[.string ⟨#[]⟩, .string ⟨#[]⟩, .string ⟨#[73]⟩, .slice (some ⟨cb, 0, none⟩) 4 4] 53)
      have HRUN := Lib.hid (mlaw_run (twoP op a b) (.slice none 0 0) (.slice (some ⟨w5.heap.size, 0, none⟩) 1 1) E _ (HSW.out.upd hua) (class_nil _) hML2 HVF.out.ok (fun j hj => ⟨_, HVF.out.look.look j hj⟩) HVF.out.bd none 0 0 0 [] (lng_nil _) (fun _ => rfl) (by simp) (by simp) 0 (by omega))
      have HUA := Lib.hid (HW.out.trans hua)
      clear hML hML2 hua

      go_wp2_with fail
      refine HRUN.out.mono ?_
      rintro e w7 ⟨q, vc, he, ho7, hu7⟩
      unfold outcells at he
      rw [HR1.out, HR2.out] at he
      have he2 : e = .returned (.tuple #[.agg #[.int .i64 1, .int .i64 0, .int .i64 0, .int .i64 0, .int .i64 tv, .slice q 0 vc], .bool true]) := he
      subst he2
      clear he
      rw [HR1.out] at ho7
      obtain ⟨qb, hq, _⟩ := OwnI.ints ho7
      have hu8 := (Upd.refl [] w7).alloc (.cells #[.int .i64 1, .int .i64 0, .int .i64 0, .int .i64 0, .int .i64 tv, .slice q 0 vc] 37)
      have HO8 := Lib.hid (heap_alloc_new w7 (.cells #[.int .i64 1, .int .i64 0, .int .i64 0, .int .i64 0, .int .i64 tv, .slice q 0 vc] 37))
      have HQ8 := Lib.hid (hq.upd hu8 (by simp))
      have HU8 := Lib.hid ((HUA.out.trans hu7).trans hu8)
      clear ho7 hu7 hu8 hq
      go_upto_region 10 with fail
      generalize w7.alloc (.cells #[.int .i64 1, .int .i64 0, .int .i64 0, .int .i64 0, .int .i64 tv, .slice q 0 vc] 37) = w8 at HO8 HQ8 HU8 ⊢
      obtain ⟨rb, hrb⟩ : ∃ rb, w7.heap.size = rb := ⟨_, rfl⟩
      rw [hrb] at HO8 ⊢
      clear hrb
      have c0 : w8.cell? ⟨rb, 0, none⟩ = some (.int .i64 1) := by rw [cell_of HO8.out]; rfl
      have c1 : w8.cell? ⟨rb, 1, none⟩ = some (.int .i64 0) := by rw [cell_of HO8.out]; rfl
      have c2 : w8.cell? ⟨rb, 2, none⟩ = some (.int .i64 0) := by rw [cell_of HO8.out]; rfl
      have c3 : w8.cell? ⟨rb, 3, none⟩ = some (.int .i64 0) := by rw [cell_of HO8.out]; rfl
      have c4 : w8.cell? ⟨rb, 4, none⟩ = some (.int .i64 tv) := by rw [cell_of HO8.out]; rfl
      have c5 : w8.cell? ⟨rb, 5, none⟩ = some (.slice q 0 vc) := by rw [cell_of HO8.out]; rfl
      have HSO : Hid (Calls Tryz.prog 17 #[.agg #[.int .i64 1, .int .i64 0, .int .i64 0, .int .i64 0, .int .i64 tv, .slice q 0 vc], .agg #[.int .i64 1, .int .i64 0, .int .i64 0, .int .i64 0, .int .i64 tv, .slice none 0 0]] w8 fun e w' => e = .returned (.bool true) ∧ Upd [] w8 w') := by
        have h2 : IntsV w8 (.slice none 0 0) 0 [] := ⟨.inl ⟨rfl, rfl⟩, by simp⟩
        have h3 := souts_any HQ8.out h2 (by simp) (1) (0) (0) (0) (tv) (1) (0) (0) (0) (tv)
        simp at h3
        exact h3
      go_wp2_with fail
      refine HSO.out.mono ?_
      rintro e w9 ⟨rfl, hu9⟩
      have HU9 := Lib.hid (HU8.out.trans hu9)
      clear hu9
      go_wp2_with fail
      go_ret
      exact ⟨rfl, HU9.out⟩
    · have HR2 : Hid (((Mc.new (twoP op a b) [] 0).run (twoP op a b)).fin.getD ⟨0, 0, 0, 0, 0⟩ = ⟨2, tt, 0, 2, 0⟩) := by
        show _ = _
        rw [hfin, if_pos ht]
        rfl
      clear hfin
      have hML := meths_lit w5 [⟨ByteArray.empty, ByteArray.empty, bs [73], [⟨1, 0, 0, a⟩, ⟨1, 0, 0, b⟩, ⟨op, 0, 0, 0⟩, ⟨33, 0, 0, 0⟩]⟩] [.slice (some ⟨cb, 0, none⟩) 4 4] rfl (by simp) (fun i hi => by
        obtain rfl : i = 0 := by simpa using hi
        exact ⟨by show (0 : Nat) ≤ _; omega, by show (0 : Nat) ≤ _; omega, by show (1 : Nat) ≤ _; decide⟩) (fun i hi => by
        obtain rfl : i = 0 := by simpa using hi
        exact HCO.out)
      have hML2 : MethsAt (w5.alloc (.cells #[.string ⟨#[]⟩, .string ⟨#[]⟩, .string ⟨#[73]⟩, .slice (some ⟨cb, 0, none⟩) 4 4] 53)) (.slice (some ⟨w5.heap.size, 0, none⟩) 1 1) [⟨ByteArray.empty, ByteArray.empty, bs [73], [⟨1, 0, 0, a⟩, ⟨1, 0, 0, b⟩, ⟨op, 0, 0, 0⟩, ⟨33, 0, 0, 0⟩]⟩] := hML
      have hua := (Upd.refl [] w5).alloc (.cells #[.string ⟨#[]⟩, .string ⟨#[]⟩, .string ⟨#[73]⟩, .slice (some ⟨cb, 0, none⟩) 4 4] 53)
      have HRUN := Lib.hid (mlaw_run (twoP op a b) (.slice none 0 0) (.slice (some ⟨w5.heap.size, 0, none⟩) 1 1) E _ (HSW.out.upd hua) (class_nil _) hML2 HVF.out.ok (fun j hj => ⟨_, HVF.out.look.look j hj⟩) HVF.out.bd none 0 0 0 [] (lng_nil _) (fun _ => rfl) (by simp) (by simp) 0 (by omega))
      have HUA := Lib.hid (HW.out.trans hua)
      clear hML hML2 hua

      go_wp2_with fail
      refine HRUN.out.mono ?_
      rintro e w7 ⟨q, vc, he, ho7, hu7⟩
      unfold outcells at he
      rw [HR1.out, HR2.out] at he
      have he2 : e = .returned (.tuple #[.agg #[.int .i64 2, .int .i64 tt, .int .i64 0, .int .i64 2, .int .i64 0, .slice q 0 vc], .bool true]) := he
      subst he2
      clear he
      rw [HR1.out] at ho7
      obtain ⟨qb, hq, _⟩ := OwnI.ints ho7
      have hu8 := (Upd.refl [] w7).alloc (.cells #[.int .i64 2, .int .i64 tt, .int .i64 0, .int .i64 2, .int .i64 0, .slice q 0 vc] 37)
      have HO8 := Lib.hid (heap_alloc_new w7 (.cells #[.int .i64 2, .int .i64 tt, .int .i64 0, .int .i64 2, .int .i64 0, .slice q 0 vc] 37))
      have HQ8 := Lib.hid (hq.upd hu8 (by simp))
      have HU8 := Lib.hid ((HUA.out.trans hu7).trans hu8)
      clear ho7 hu7 hu8 hq
      go_upto_region 10 with fail
      generalize w7.alloc (.cells #[.int .i64 2, .int .i64 tt, .int .i64 0, .int .i64 2, .int .i64 0, .slice q 0 vc] 37) = w8 at HO8 HQ8 HU8 ⊢
      obtain ⟨rb, hrb⟩ : ∃ rb, w7.heap.size = rb := ⟨_, rfl⟩
      rw [hrb] at HO8 ⊢
      clear hrb
      have c0 : w8.cell? ⟨rb, 0, none⟩ = some (.int .i64 2) := by rw [cell_of HO8.out]; rfl
      have c1 : w8.cell? ⟨rb, 1, none⟩ = some (.int .i64 tt) := by rw [cell_of HO8.out]; rfl
      have c2 : w8.cell? ⟨rb, 2, none⟩ = some (.int .i64 0) := by rw [cell_of HO8.out]; rfl
      have c3 : w8.cell? ⟨rb, 3, none⟩ = some (.int .i64 2) := by rw [cell_of HO8.out]; rfl
      have c4 : w8.cell? ⟨rb, 4, none⟩ = some (.int .i64 0) := by rw [cell_of HO8.out]; rfl
      have c5 : w8.cell? ⟨rb, 5, none⟩ = some (.slice q 0 vc) := by rw [cell_of HO8.out]; rfl
      have HSO : Hid (Calls Tryz.prog 17 #[.agg #[.int .i64 2, .int .i64 tt, .int .i64 0, .int .i64 2, .int .i64 0, .slice q 0 vc], .agg #[.int .i64 2, .int .i64 tt, .int .i64 0, .int .i64 2, .int .i64 0, .slice none 0 0]] w8 fun e w' => e = .returned (.bool true) ∧ Upd [] w8 w') := by
        have h2 : IntsV w8 (.slice none 0 0) 0 [] := ⟨.inl ⟨rfl, rfl⟩, by simp⟩
        have h3 := souts_any HQ8.out h2 (by simp) (2) (tt) (0) (2) (0) (2) (tt) (0) (2) (0)
        simp at h3
        exact h3
      go_wp2_with fail
      refine HSO.out.mono ?_
      rintro e w9 ⟨rfl, hu9⟩
      have HU9 := Lib.hid (HU8.out.trans hu9)
      clear hu9
      go_wp2_with fail
      go_ret
      exact ⟨rfl, HU9.out⟩
end Go.Proofs.YtojobkhidlfeoaaGreatDoor
