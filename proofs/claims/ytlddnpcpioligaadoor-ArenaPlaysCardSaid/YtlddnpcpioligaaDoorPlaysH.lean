/- The walk of ArenaPlays: all rounds. -/
import Derived.Test.YtlddnpcpioligaaDoorPlaysS
namespace Go.Proofs.YtlddnpcpioligaaDoor
open Go.RowKit

set_option maxRecDepth 100000 in
set_option maxHeartbeats 8000000 in
theorem plays_high (n k cap : Nat) (ask : Int) (hq : (n : Int) ≤ ask) (a : Option Addr) (w : World) (h60 : k ≤ 60) (hn : n ≤ 200)
    (HX : Hid (∀ i, i < k → ∃ b o d, a = some ⟨b, o, none⟩ ∧ Do5.bd d ∧ DoIn w b (o + i * 5) d)) :
    Calls Tryd.prog 5 #[.int .i64 (n : Int), .slice a k cap, .int .i64 ask] w fun e w' => e = .returned (.bool true) ∧ Upd [] w w' := by
  obtain ⟨i0, hi, hz0, hz1, hz2⟩ := info_parts Tryd.info64
  have hmk := fun w => run_make (P := Tryd.prog) w 31 2 i0 (.int .i64 0) Tryd.underlying31 hi hz0 .i64 .i64 (n : Int) (n : Int) (by omega) (by omega) (by rw [hz2]; omega) (by omega)
  rw [hz1, Nat.mul_one] at hmk
  simp only [madeCells_zero, Int.toNat_natCast] at hmk
  clear hi hz0 hz1 hz2
  have a1 : decide (0 ≤ ask) = true := by simp; omega
  have a2 : decide (ask < (n : Int)) = false := by simpa using hq
  go_enter Tryd.func5, Tryd.ntmps5
  go_wp2_with fail
  refine (first_any _).mono ?_
  rintro e w1 ⟨rfl, hu1⟩
  go_wp2_with fail
  refine (new_ok _ _ (by omega) (by omega)).mono ?_
  rintro e w2 ⟨rfl, hA0, hu2, hz2⟩
  have HS := Lib.hid hu1.size
  have HZ := Lib.hid hz2
  clear hz2
  have hU0 := hu1.trans hu2
  rw [Int.toNat_natCast] at hA0
  go_wp2_with fail
  refine (len_any _ _ _ _ hA0).mono ?_
  rintro e w' ⟨rfl, rfl⟩
  rw [List.length_replicate]
  go_wp2_with fail
  clear hmk hu2
  have hA1 : ArAt (w2.alloc (.cells (icells (List.replicate n 0)) 2)) (w1.heap.size + 1) w1.heap.size (List.replicate n 0) := hA0.upd ((Upd.refl [] _).alloc _) (by simp) (by simp)
  have hM1 : MirAt (w2.alloc (.cells (icells (List.replicate n 0)) 2)) w2.heap.size (List.replicate n 0) := heap_alloc_new w2 _
  have hU1 : Upd [] w (w2.alloc (.cells (icells (List.replicate n 0)) 2)) := hU0.alloc _
  clear hA0 hU0 hu1
  go_loopw [13] (fun i wr => ∃ (j : Nat) (A : List Int), j ≤ k ∧ i = .int .i64 j ∧ ArAt wr (w1.heap.size + 1) w1.heap.size A ∧ MirAt wr w2.heap.size A ∧ Upd [] w wr ∧ Hid (A.length = n)) (fun i _ => k - (intOf i).toNat)
  case atStart => exact ⟨0, _, by omega, rfl, hA1, hM1, hU1, by show _ = _; simp⟩
  case round =>
    clear hA1 hM1 hU1
    obtain ⟨j, A, hj, rfl, hA, hM, hU, HL⟩ := hrel
    by_cases hlt : j < k
    · obtain ⟨b, o, d, rfl, hbd, hd0, hd1, hd2, hd3, hd4⟩ := HX.out j hlt
      have hd0' := hU.cell hd0 (by simp)
      have hd1' := hU.cell hd1 (by simp)
      have hd2' := hU.cell hd2 (by simp)
      have hd3' := hU.cell hd3 (by simp)
      have hd4' := hU.cell hd4 (by simp)
      clear hd0 hd1 hd2 hd3 hd4
      obtain ⟨kd, da, db, dn, dv⟩ := d
      have hb0 := hbd kd (by simp [Do5.cells])
      have hb1 := hbd da (by simp [Do5.cells])
      have hb2 := hbd db (by simp [Do5.cells])
      have hb3 := hbd dn (by simp [Do5.cells])
      have hb4 := hbd dv (by simp [Do5.cells])
      clear hbd
      dsimp only at hd0' hd1' hd2' hd3' hd4'
      by_cases hk1 : kd = 1
      · subst hk1
        by_cases hi1 : 0 ≤ da
        · by_cases hi2 : da < n
          · 
            as_aux_lemma =>
              obtain ⟨ai, rfl⟩ := Int.eq_ofNat_of_zero_le hi1
              have e1 : decide (0 ≤ (ai : Int)) = true := by simp
              have e2 : decide ((ai : Int) < (n : Int)) = true := by simpa using hi2

              have hAw : ArAt (wr.alloc (.cells #[.int .i64 1, .int .i64 ai, .int .i64 db, .int .i64 dn, .int .i64 dv] 46)) (w1.heap.size + 1) w1.heap.size A := hA.upd ((Upd.refl [] _).alloc _) (by simp) (by simp)
              have hMw : MirAt (wr.alloc (.cells #[.int .i64 1, .int .i64 ai, .int .i64 db, .int .i64 dn, .int .i64 dv] 46)) w2.heap.size A := ((Upd.refl [] wr).alloc _).heap hM (by simp)
              have hUw : Upd [] w (wr.alloc (.cells #[.int .i64 1, .int .i64 ai, .int .i64 db, .int .i64 dn, .int .i64 dv] 46)) := hU.alloc _

              have HAw := Lib.hid hAw
              have HMw := Lib.hid hMw
              have HUw := Lib.hid hUw
              clear hAw hMw hUw
              go_wp2_with fail
              refine (store_in _ _ _ _ _ _ HAw.out (by omega) (by have := HL.out; omega)).mono ?_
              rintro e w3 ⟨rfl, hA2, hU3a⟩

              have hDb : w3.heap[wr.heap.size]? = some (.cells #[.int .i64 1, .int .i64 ai, .int .i64 db, .int .i64 dn, .int .i64 dv] 46) := hU3a.heap (heap_alloc_new wr _) (by simp; have := lt_of_heap hA.2.1; omega)
              have dc1 : w3.cell? ⟨wr.heap.size, 1, none⟩ = some (.int .i64 ai) := by rw [cell_of hDb]; rfl
              have dc2 : w3.cell? ⟨wr.heap.size, 2, none⟩ = some (.int .i64 db) := by rw [cell_of hDb]; rfl
              have dc3 : w3.cell? ⟨wr.heap.size, 3, none⟩ = some (.int .i64 dn) := by rw [cell_of hDb]; rfl
              have dc4 : w3.cell? ⟨wr.heap.size, 4, none⟩ = some (.int .i64 dv) := by rw [cell_of hDb]; rfl

              rw [Int.toNat_natCast] at hA2
              have hM2 : MirAt w3 w2.heap.size A := hU3a.heap HMw.out (by simp; have := HZ.out; omega)
              have mc : w3.cell? ⟨w2.heap.size, ai, none⟩ = some (.int .i64 (A.getD ai 0)) := by rw [cell_of hM2]; exact icells_get A ai (by have := HL.out; omega)
              have mf : w3.frozen? ⟨w2.heap.size, ai, none⟩ = false := froz_of hM2 ai
              have hU2 : Upd [] w w3 := HUw.out.trans' hU3a (by intro i hi h2; simp at hi; have := HS.out; omega)
              clear hDb hU3a
              go_wp2_with fail
              have hA3 : ArAt (w3.setCell ⟨w2.heap.size, ai, none⟩ (.int .i64 dv)) (w1.heap.size + 1) w1.heap.size (A.set ai dv) := hA2.upd ((Upd.refl [w2.heap.size] _).setCell (by simp) _) (by simp; have := HZ.out; omega) (by simp; have := HZ.out; omega)
              have hM3 : MirAt (w3.setCell ⟨w2.heap.size, ai, none⟩ (.int .i64 dv)) w2.heap.size (A.set ai dv) := by
                have := heap_setCell hM2 ai (.int .i64 dv)
                rw [icells_set] at this
                exact this
              have hU3 : Upd [] w (w3.setCell ⟨w2.heap.size, ai, none⟩ (.int .i64 dv)) := hU2.setCell (Or.inr (by have := HZ.out; have := HS.out; simp; omega)) _
              have HL3 : Hid ((A.set ai dv).length = n) := by show _ = _; rw [List.length_set]; exact HL.out
              clear mc mf dc1 dc2 dc3 dc4 hM2 hA2 hU2
              generalize w3.setCell ⟨w2.heap.size, ai, none⟩ (.int .i64 dv) = wc at *

              refine (load_out _ _ _ _ _ hA3 (by have := HL3.out; omega)).mono ?_
              rintro e w' ⟨rfl, rfl⟩
              go_wp2_with fail
              go_roundw
              case rel => exact ⟨j + 1, (A.set ai dv), by omega, by go_num, hA3, hM3, hU3, HL3⟩
              case measure => simp [intOf]; omega
          · 
            as_aux_lemma =>
              have e1 : decide (0 ≤ da) = true := by simpa using hi1
              have e2 : decide (da < (n : Int)) = false := by simpa using hi2
              have hAw : ArAt (wr.alloc (.cells #[.int .i64 1, .int .i64 da, .int .i64 db, .int .i64 dn, .int .i64 dv] 46)) (w1.heap.size + 1) w1.heap.size A := hA.upd ((Upd.refl [] _).alloc _) (by simp) (by simp)
              have hMw : MirAt (wr.alloc (.cells #[.int .i64 1, .int .i64 da, .int .i64 db, .int .i64 dn, .int .i64 dv] 46)) w2.heap.size A := ((Upd.refl [] wr).alloc _).heap hM (by simp)
              have hUw : Upd [] w (wr.alloc (.cells #[.int .i64 1, .int .i64 da, .int .i64 db, .int .i64 dn, .int .i64 dv] 46)) := hU.alloc _

              have HAw := Lib.hid hAw
              have HMw := Lib.hid hMw
              have HUw := Lib.hid hUw
              clear hAw hMw hUw
              go_wp2_with fail
              refine (store_out _ _ _ _ _ _ HAw.out (by have := HL.out; omega)).mono ?_
              rintro e w' ⟨rfl, rfl⟩
              have hAw := HAw.out
              have hMw := HMw.out
              have hUw := HUw.out
              clear HAw HMw HUw
              go_wp2_with fail

              generalize (wr.alloc (.cells #[.int .i64 1, .int .i64 da, .int .i64 db, .int .i64 dn, .int .i64 dv] 46)) = wc at *
              have hA3 := hAw
              have hM3 := hMw
              have hU3 := hUw
              have HL3 := HL

              refine (load_out _ _ _ _ _ hA3 (by have := HL3.out; omega)).mono ?_
              rintro e w' ⟨rfl, rfl⟩
              go_wp2_with fail
              go_roundw
              case rel => exact ⟨j + 1, A, by omega, by go_num, hA3, hM3, hU3, HL3⟩
              case measure => simp [intOf]; omega
        · 
          as_aux_lemma =>
            have e1 : decide (0 ≤ da) = false := by simpa using hi1
            have hAw : ArAt (wr.alloc (.cells #[.int .i64 1, .int .i64 da, .int .i64 db, .int .i64 dn, .int .i64 dv] 46)) (w1.heap.size + 1) w1.heap.size A := hA.upd ((Upd.refl [] _).alloc _) (by simp) (by simp)
            have hMw : MirAt (wr.alloc (.cells #[.int .i64 1, .int .i64 da, .int .i64 db, .int .i64 dn, .int .i64 dv] 46)) w2.heap.size A := ((Upd.refl [] wr).alloc _).heap hM (by simp)
            have hUw : Upd [] w (wr.alloc (.cells #[.int .i64 1, .int .i64 da, .int .i64 db, .int .i64 dn, .int .i64 dv] 46)) := hU.alloc _

            have HAw := Lib.hid hAw
            have HMw := Lib.hid hMw
            have HUw := Lib.hid hUw
            clear hAw hMw hUw
            go_wp2_with fail
            refine (store_out _ _ _ _ _ _ HAw.out (by have := HL.out; omega)).mono ?_
            rintro e w' ⟨rfl, rfl⟩
            have hAw := HAw.out
            have hMw := HMw.out
            have hUw := HUw.out
            clear HAw HMw HUw
            go_wp2_with fail

            generalize (wr.alloc (.cells #[.int .i64 1, .int .i64 da, .int .i64 db, .int .i64 dn, .int .i64 dv] 46)) = wc at *
            have hA3 := hAw
            have hM3 := hMw
            have hU3 := hUw
            have HL3 := HL

            refine (load_out _ _ _ _ _ hA3 (by have := HL3.out; omega)).mono ?_
            rintro e w' ⟨rfl, rfl⟩
            go_wp2_with fail
            go_roundw
            case rel => exact ⟨j + 1, A, by omega, by go_num, hA3, hM3, hU3, HL3⟩
            case measure => simp [intOf]; omega
      · by_cases hk2 : kd = 2
        · subst hk2
          clear hk1
          by_cases h1 : 0 ≤ dn
          · 
            by_cases h2 : dn ≤ n
            · 
              by_cases h3 : 0 ≤ da
              · 
                by_cases h4 : 0 ≤ db
                · 
                  by_cases h5 : da ≤ n - dn
                  · 
                    by_cases h6 : db ≤ n - dn
                    · 
                      as_aux_lemma =>
                        obtain ⟨nn, rfl⟩ := Int.eq_ofNat_of_zero_le h1
                        obtain ⟨ai, rfl⟩ := Int.eq_ofNat_of_zero_le h3
                        obtain ⟨bi, rfl⟩ := Int.eq_ofNat_of_zero_le h4
                        have e1 : decide (0 ≤ (nn : Int)) = true := by simp
                        have e2 : decide ((nn : Int) ≤ (n : Int)) = true := by simpa using h2
                        have e3 : decide (0 ≤ (ai : Int)) = true := by simp
                        have e4 : decide (0 ≤ (bi : Int)) = true := by simp
                        have e5 : decide ((ai : Int) ≤ (n : Int) - (nn : Int)) = true := by simpa using h5
                        have e6 : decide ((bi : Int) ≤ (n : Int) - (nn : Int)) = true := by simpa using h6

                        have hAw : ArAt (wr.alloc (.cells #[.int .i64 2, .int .i64 ai, .int .i64 bi, .int .i64 nn, .int .i64 dv] 46)) (w1.heap.size + 1) w1.heap.size A := hA.upd ((Upd.refl [] _).alloc _) (by simp) (by simp)
                        have hMw : MirAt (wr.alloc (.cells #[.int .i64 2, .int .i64 ai, .int .i64 bi, .int .i64 nn, .int .i64 dv] 46)) w2.heap.size A := ((Upd.refl [] wr).alloc _).heap hM (by simp)
                        have hUw : Upd [] w (wr.alloc (.cells #[.int .i64 2, .int .i64 ai, .int .i64 bi, .int .i64 nn, .int .i64 dv] 46)) := hU.alloc _

                        have HAw := Lib.hid hAw
                        have HMw := Lib.hid hMw
                        have HUw := Lib.hid hUw
                        clear hAw hMw hUw

                        go_wp2_with fail
                        refine (copy_yes _ _ _ _ _ _ _ HAw.out (by omega) (by omega) (by have := HL.out; omega) (by omega) (by have := HL.out; omega)).mono ?_
                        rintro e w3 ⟨rfl, hA2, hU3a⟩

                        have hDb : w3.heap[wr.heap.size]? = some (.cells #[.int .i64 2, .int .i64 ai, .int .i64 bi, .int .i64 nn, .int .i64 dv] 46) := hU3a.heap (heap_alloc_new wr _) (by simp; have := lt_of_heap hA.2.1; omega)
                        have dc1 : w3.cell? ⟨wr.heap.size, 1, none⟩ = some (.int .i64 ai) := by rw [cell_of hDb]; rfl
                        have dc2 : w3.cell? ⟨wr.heap.size, 2, none⟩ = some (.int .i64 bi) := by rw [cell_of hDb]; rfl
                        have dc3 : w3.cell? ⟨wr.heap.size, 3, none⟩ = some (.int .i64 nn) := by rw [cell_of hDb]; rfl
                        have dc4 : w3.cell? ⟨wr.heap.size, 4, none⟩ = some (.int .i64 dv) := by rw [cell_of hDb]; rfl

                        simp only [Int.toNat_natCast] at hA2
                        have hM2 : MirAt w3 w2.heap.size A := hU3a.heap HMw.out (by simp; have := HZ.out; omega)
                        have hU2 : Upd [] w w3 := HUw.out.trans' hU3a (by intro i hi h2; simp at hi; have := HS.out; omega)
                        have hsz3 : wr.heap.size < w3.heap.size := by have := hU3a.size; simp at this; omega
                        clear hU3a
                        go_wp2_with fail
                        clear e1 e2 e3 e4 e5 e6
                        have HLG := Lib.hid (longs_any w2.heap.size 0 n A w3 (by have := HL.out; omega) (fun i hi => by rw [Nat.zero_add, cell_of hM2]; exact icells_get A i hi))
                        rw [HL.out] at HLG
                        refine HLG.out.mono ?_
                        clear HLG
                        rintro e w4 ⟨v, rfl, hown, hU4⟩
                        have HW : Hid (∀ i, i < n → ∃ g c, v = .slice (some ⟨g, 0, none⟩) n c ∧ w3.heap.size ≤ g ∧ w4.cell? ⟨g, i, none⟩ = some (.int .i64 (A.getD i 0))) := by
                          intro i hi
                          rcases hown.2 with ⟨_, h0⟩ | ⟨g, c, cur, hv, hbg, hgg, _⟩
                          · omega
                          · refine ⟨g, c, hv, hbg, ?_⟩
                            have h1 := hown.cells (g := g) (by rw [hv]; rfl) i (.int .i64 (A.getD i 0)) (by
                              rw [List.getElem?_map, List.getElem?_eq_getElem (show i < A.length by have := HL.out; omega)]
                              simp [List.getD_eq_getElem?_getD, List.getElem?_eq_getElem (show i < A.length by have := HL.out; omega)])
                            rwa [Addr.add_lit, Nat.zero_add] at h1
                        clear hown
                        have hA4 : ArAt w4 (w1.heap.size + 1) w1.heap.size (splice A ai ((A.drop bi).take nn)) := hA2.upd hU4 (by simp) (by simp)
                        have hM4 : MirAt w4 w2.heap.size A := hU4.heap hM2 (by simp)
                        have hU4' : Upd [] w w4 := hU2.trans hU4
                        have hD4 : Hid (w4.heap[wr.heap.size]? = some (.cells #[.int .i64 2, .int .i64 ai, .int .i64 bi, .int .i64 nn, .int .i64 dv] 46)) := hU4.heap hDb (by simp)
                        have HG3 : Hid (w2.heap.size < w3.heap.size) := by show _ < _; have := lt_of_heap hM2; omega
                        have hwr : Hid (wr.heap.size ≠ w2.heap.size) := by show _ ≠ _; have := lt_of_heap hM; omega
                        clear hDb dc1 dc2 dc3 dc4 hA2 hM2 hU2 hU4
                        go_wp2_with fail
                        clear hA hM hU
                        obtain ⟨wo, rfl⟩ : ∃ wo : World, wo = wr := ⟨_, rfl⟩
                        go_loopw [18] (fun i w5 => ∃ kk : Nat, kk ≤ nn ∧ i = .int .i64 kk ∧ MirAt w5 w2.heap.size (splice A ai ((A.drop bi).take kk)) ∧ Upd [w2.heap.size] w4 w5) (fun i _ => nn - (intOf i).toNat)
                        case atStart => exact ⟨0, by omega, rfl, by simpa [splice] using hM4, Upd.refl _ _⟩
                        case round =>
                          obtain ⟨kk, hkk, rfl, hM5, hU5⟩ := hrel
                          have hD5 := hU5.heap hD4.out (by simp; exact hwr.out)
                          have dc1 : wr.cell? ⟨wo.heap.size, 1, none⟩ = some (.int .i64 ai) := by rw [cell_of hD5]; rfl
                          have dc2 : wr.cell? ⟨wo.heap.size, 2, none⟩ = some (.int .i64 bi) := by rw [cell_of hD5]; rfl
                          have dc3 : wr.cell? ⟨wo.heap.size, 3, none⟩ = some (.int .i64 nn) := by rw [cell_of hD5]; rfl
                          clear hD5
                          by_cases hkl : kk < nn
                          · obtain ⟨g, c, rfl, hg, hcell⟩ := HW.out (bi + kk) (by omega)
                            have hgne : g ≠ w2.heap.size := by have := HZ.out; have := hwr.out; have := lt_of_heap hM4; have := lt_of_heap hA4.2.1; have := HG3.out; omega
                            have hcell' := hU5.cell hcell (by simp; exact hgne)
                            have HSS := Lib.hid (splice_snoc A ((A.drop bi).take kk) ai (A.getD (bi + kk) 0) (by simp; have := HL.out; omega))
                            have HKL := Lib.hid (show ((A.drop bi).take kk).length = kk by simp; have := HL.out; omega)
                            have HTS := Lib.hid (take_drop_snoc A bi kk (by have := HL.out; omega))
                            have HLY := Lib.hid (show (splice A ai ((A.drop bi).take kk)).length = n by rw [length_splice _ _ _ (by simp; have := HL.out; omega)]; exact HL.out)
                            generalize A.getD (bi + kk) 0 = x at hcell hcell' HSS HTS
                            have mc : wr.cell? ⟨w2.heap.size, ai + kk, none⟩ = some (.int .i64 ((splice A ai ((A.drop bi).take kk)).getD (ai + kk) 0)) := by rw [cell_of hM5]; exact icells_get _ _ (by have := HLY.out; omega)
                            generalize (splice A ai ((A.drop bi).take kk)).getD (ai + kk) 0 = y at mc
                            have mf : wr.frozen? ⟨w2.heap.size, ai + kk, none⟩ = false := froz_of hM5 _
                            go_wp2_with fail
                            clear hcell
                            go_region
                            have hM6 : MirAt (wr.setCell ⟨w2.heap.size, ai + kk, none⟩ (.int .i64 x)).drew w2.heap.size (splice A ai ((A.drop bi).take (kk + 1))) := by
                              have := heap_setCell hM5 (ai + kk) (.int .i64 x)
                              rw [icells_set] at this
                              rw [HTS.out, ← HSS.out, HKL.out]
                              exact this
                            have hU6 : Upd [w2.heap.size] w4 (wr.setCell ⟨w2.heap.size, ai + kk, none⟩ (.int .i64 x)).drew := (hU5.setCell (by simp) _).drew
                            clear mc mf dc1 dc2 dc3 hcell'
                            generalize (wr.setCell ⟨w2.heap.size, ai + kk, none⟩ (.int .i64 x)).drew = w7 at *
                            go_wp2_with fail
                            go_roundw
                            case rel => exact ⟨kk + 1, by omega, by go_num, hM6, hU6⟩
                            case measure => simp [intOf]; omega
                          · obtain rfl : kk = nn := by omega
                            go_wp2_with fail
                            have hA3 : ArAt wr (w1.heap.size + 1) w1.heap.size (splice A ai ((A.drop bi).take kk)) := hA4.upd hU5 (by simp; have := HZ.out; omega) (by simp; have := HZ.out; omega)
                            have hM3 := hM5
                            have hU3 : Upd [] w wr := hU4'.trans' hU5 (by intro i hi h2; simp at hi; have := HZ.out; have := HS.out; omega)
                            have HL3 : Hid ((splice A ai ((A.drop bi).take kk)).length = n) := by show _ = _; rw [length_splice _ _ _ (by simp; have := HL.out; omega)]; exact HL.out
                            generalize splice A ai ((A.drop bi).take kk) = A3 at *
                            obtain ⟨wc, hwc⟩ : ∃ wc, wc = wr := ⟨_, rfl⟩
                            rw [← hwc] at hA3 hM3 hU3 ⊢
                            clear hwc hM5 hA4
                            refine (load_out _ _ _ _ _ hA3 (by have := HL3.out; omega)).mono ?_
                            rintro e w' ⟨rfl, rfl⟩
                            go_wp2_with fail
                            go_roundw
                            case rel => exact ⟨j + 1, A3, by omega, by go_num, hA3, hM3, hU3, HL3⟩
                            case measure => simp [intOf]; omega
                    · 
                      as_aux_lemma =>
                        have e1 : decide (0 ≤ dn) = true := by simpa using h1
                        have e2 : decide (dn ≤ (n : Int)) = true := by simpa using h2
                        have e3 : decide (0 ≤ da) = true := by simpa using h3
                        have e4 : decide (0 ≤ db) = true := by simpa using h4
                        have e5 : decide (da ≤ (n : Int) - dn) = true := by simpa using h5
                        have e6 : decide (db ≤ (n : Int) - dn) = false := by simpa using h6

                        have hAw : ArAt (wr.alloc (.cells #[.int .i64 2, .int .i64 da, .int .i64 db, .int .i64 dn, .int .i64 dv] 46)) (w1.heap.size + 1) w1.heap.size A := hA.upd ((Upd.refl [] _).alloc _) (by simp) (by simp)
                        have hMw : MirAt (wr.alloc (.cells #[.int .i64 2, .int .i64 da, .int .i64 db, .int .i64 dn, .int .i64 dv] 46)) w2.heap.size A := ((Upd.refl [] wr).alloc _).heap hM (by simp)
                        have hUw : Upd [] w (wr.alloc (.cells #[.int .i64 2, .int .i64 da, .int .i64 db, .int .i64 dn, .int .i64 dv] 46)) := hU.alloc _

                        have HAw := Lib.hid hAw
                        have HMw := Lib.hid hMw
                        have HUw := Lib.hid hUw
                        clear hAw hMw hUw

                        go_wp2_with fail
                        refine (copy_no _ _ _ _ _ _ _ HAw.out (by have := HL.out; omega) (by omega) (by omega)).mono ?_
                        rintro e w' ⟨rfl, rfl⟩
                        have hAw := HAw.out
                        have hMw := HMw.out
                        have hUw := HUw.out
                        clear HAw HMw HUw
                        go_wp2_with fail

                        generalize (wr.alloc (.cells #[.int .i64 2, .int .i64 da, .int .i64 db, .int .i64 dn, .int .i64 dv] 46)) = wc at *
                        have hA3 := hAw
                        have hM3 := hMw
                        have hU3 := hUw
                        have HL3 := HL

                        refine (load_out _ _ _ _ _ hA3 (by have := HL3.out; omega)).mono ?_
                        rintro e w' ⟨rfl, rfl⟩
                        go_wp2_with fail
                        go_roundw
                        case rel => exact ⟨j + 1, A, by omega, by go_num, hA3, hM3, hU3, HL3⟩
                        case measure => simp [intOf]; omega
                  · 
                    as_aux_lemma =>
                      have e1 : decide (0 ≤ dn) = true := by simpa using h1
                      have e2 : decide (dn ≤ (n : Int)) = true := by simpa using h2
                      have e3 : decide (0 ≤ da) = true := by simpa using h3
                      have e4 : decide (0 ≤ db) = true := by simpa using h4
                      have e5 : decide (da ≤ (n : Int) - dn) = false := by simpa using h5

                      have hAw : ArAt (wr.alloc (.cells #[.int .i64 2, .int .i64 da, .int .i64 db, .int .i64 dn, .int .i64 dv] 46)) (w1.heap.size + 1) w1.heap.size A := hA.upd ((Upd.refl [] _).alloc _) (by simp) (by simp)
                      have hMw : MirAt (wr.alloc (.cells #[.int .i64 2, .int .i64 da, .int .i64 db, .int .i64 dn, .int .i64 dv] 46)) w2.heap.size A := ((Upd.refl [] wr).alloc _).heap hM (by simp)
                      have hUw : Upd [] w (wr.alloc (.cells #[.int .i64 2, .int .i64 da, .int .i64 db, .int .i64 dn, .int .i64 dv] 46)) := hU.alloc _

                      have HAw := Lib.hid hAw
                      have HMw := Lib.hid hMw
                      have HUw := Lib.hid hUw
                      clear hAw hMw hUw

                      go_wp2_with fail
                      refine (copy_no _ _ _ _ _ _ _ HAw.out (by have := HL.out; omega) (by omega) (by omega)).mono ?_
                      rintro e w' ⟨rfl, rfl⟩
                      have hAw := HAw.out
                      have hMw := HMw.out
                      have hUw := HUw.out
                      clear HAw HMw HUw
                      go_wp2_with fail

                      generalize (wr.alloc (.cells #[.int .i64 2, .int .i64 da, .int .i64 db, .int .i64 dn, .int .i64 dv] 46)) = wc at *
                      have hA3 := hAw
                      have hM3 := hMw
                      have hU3 := hUw
                      have HL3 := HL

                      refine (load_out _ _ _ _ _ hA3 (by have := HL3.out; omega)).mono ?_
                      rintro e w' ⟨rfl, rfl⟩
                      go_wp2_with fail
                      go_roundw
                      case rel => exact ⟨j + 1, A, by omega, by go_num, hA3, hM3, hU3, HL3⟩
                      case measure => simp [intOf]; omega
                · 
                  as_aux_lemma =>
                    have e1 : decide (0 ≤ dn) = true := by simpa using h1
                    have e2 : decide (dn ≤ (n : Int)) = true := by simpa using h2
                    have e3 : decide (0 ≤ da) = true := by simpa using h3
                    have e4 : decide (0 ≤ db) = false := by simpa using h4

                    have hAw : ArAt (wr.alloc (.cells #[.int .i64 2, .int .i64 da, .int .i64 db, .int .i64 dn, .int .i64 dv] 46)) (w1.heap.size + 1) w1.heap.size A := hA.upd ((Upd.refl [] _).alloc _) (by simp) (by simp)
                    have hMw : MirAt (wr.alloc (.cells #[.int .i64 2, .int .i64 da, .int .i64 db, .int .i64 dn, .int .i64 dv] 46)) w2.heap.size A := ((Upd.refl [] wr).alloc _).heap hM (by simp)
                    have hUw : Upd [] w (wr.alloc (.cells #[.int .i64 2, .int .i64 da, .int .i64 db, .int .i64 dn, .int .i64 dv] 46)) := hU.alloc _

                    have HAw := Lib.hid hAw
                    have HMw := Lib.hid hMw
                    have HUw := Lib.hid hUw
                    clear hAw hMw hUw

                    go_wp2_with fail
                    refine (copy_no _ _ _ _ _ _ _ HAw.out (by have := HL.out; omega) (by omega) (by omega)).mono ?_
                    rintro e w' ⟨rfl, rfl⟩
                    have hAw := HAw.out
                    have hMw := HMw.out
                    have hUw := HUw.out
                    clear HAw HMw HUw
                    go_wp2_with fail

                    generalize (wr.alloc (.cells #[.int .i64 2, .int .i64 da, .int .i64 db, .int .i64 dn, .int .i64 dv] 46)) = wc at *
                    have hA3 := hAw
                    have hM3 := hMw
                    have hU3 := hUw
                    have HL3 := HL

                    refine (load_out _ _ _ _ _ hA3 (by have := HL3.out; omega)).mono ?_
                    rintro e w' ⟨rfl, rfl⟩
                    go_wp2_with fail
                    go_roundw
                    case rel => exact ⟨j + 1, A, by omega, by go_num, hA3, hM3, hU3, HL3⟩
                    case measure => simp [intOf]; omega
              · 
                as_aux_lemma =>
                  have e1 : decide (0 ≤ dn) = true := by simpa using h1
                  have e2 : decide (dn ≤ (n : Int)) = true := by simpa using h2
                  have e3 : decide (0 ≤ da) = false := by simpa using h3

                  have hAw : ArAt (wr.alloc (.cells #[.int .i64 2, .int .i64 da, .int .i64 db, .int .i64 dn, .int .i64 dv] 46)) (w1.heap.size + 1) w1.heap.size A := hA.upd ((Upd.refl [] _).alloc _) (by simp) (by simp)
                  have hMw : MirAt (wr.alloc (.cells #[.int .i64 2, .int .i64 da, .int .i64 db, .int .i64 dn, .int .i64 dv] 46)) w2.heap.size A := ((Upd.refl [] wr).alloc _).heap hM (by simp)
                  have hUw : Upd [] w (wr.alloc (.cells #[.int .i64 2, .int .i64 da, .int .i64 db, .int .i64 dn, .int .i64 dv] 46)) := hU.alloc _

                  have HAw := Lib.hid hAw
                  have HMw := Lib.hid hMw
                  have HUw := Lib.hid hUw
                  clear hAw hMw hUw

                  go_wp2_with fail
                  refine (copy_no _ _ _ _ _ _ _ HAw.out (by have := HL.out; omega) (by omega) (by omega)).mono ?_
                  rintro e w' ⟨rfl, rfl⟩
                  have hAw := HAw.out
                  have hMw := HMw.out
                  have hUw := HUw.out
                  clear HAw HMw HUw
                  go_wp2_with fail

                  generalize (wr.alloc (.cells #[.int .i64 2, .int .i64 da, .int .i64 db, .int .i64 dn, .int .i64 dv] 46)) = wc at *
                  have hA3 := hAw
                  have hM3 := hMw
                  have hU3 := hUw
                  have HL3 := HL

                  refine (load_out _ _ _ _ _ hA3 (by have := HL3.out; omega)).mono ?_
                  rintro e w' ⟨rfl, rfl⟩
                  go_wp2_with fail
                  go_roundw
                  case rel => exact ⟨j + 1, A, by omega, by go_num, hA3, hM3, hU3, HL3⟩
                  case measure => simp [intOf]; omega
            · 
              as_aux_lemma =>
                have e1 : decide (0 ≤ dn) = true := by simpa using h1
                have e2 : decide (dn ≤ (n : Int)) = false := by simpa using h2

                have hAw : ArAt (wr.alloc (.cells #[.int .i64 2, .int .i64 da, .int .i64 db, .int .i64 dn, .int .i64 dv] 46)) (w1.heap.size + 1) w1.heap.size A := hA.upd ((Upd.refl [] _).alloc _) (by simp) (by simp)
                have hMw : MirAt (wr.alloc (.cells #[.int .i64 2, .int .i64 da, .int .i64 db, .int .i64 dn, .int .i64 dv] 46)) w2.heap.size A := ((Upd.refl [] wr).alloc _).heap hM (by simp)
                have hUw : Upd [] w (wr.alloc (.cells #[.int .i64 2, .int .i64 da, .int .i64 db, .int .i64 dn, .int .i64 dv] 46)) := hU.alloc _

                have HAw := Lib.hid hAw
                have HMw := Lib.hid hMw
                have HUw := Lib.hid hUw
                clear hAw hMw hUw

                go_wp2_with fail
                refine (copy_no _ _ _ _ _ _ _ HAw.out (by have := HL.out; omega) (by omega) (by omega)).mono ?_
                rintro e w' ⟨rfl, rfl⟩
                have hAw := HAw.out
                have hMw := HMw.out
                have hUw := HUw.out
                clear HAw HMw HUw
                go_wp2_with fail

                generalize (wr.alloc (.cells #[.int .i64 2, .int .i64 da, .int .i64 db, .int .i64 dn, .int .i64 dv] 46)) = wc at *
                have hA3 := hAw
                have hM3 := hMw
                have hU3 := hUw
                have HL3 := HL

                refine (load_out _ _ _ _ _ hA3 (by have := HL3.out; omega)).mono ?_
                rintro e w' ⟨rfl, rfl⟩
                go_wp2_with fail
                go_roundw
                case rel => exact ⟨j + 1, A, by omega, by go_num, hA3, hM3, hU3, HL3⟩
                case measure => simp [intOf]; omega
          · 
            as_aux_lemma =>
              have e1 : decide (0 ≤ dn) = false := by simpa using h1

              have hAw : ArAt (wr.alloc (.cells #[.int .i64 2, .int .i64 da, .int .i64 db, .int .i64 dn, .int .i64 dv] 46)) (w1.heap.size + 1) w1.heap.size A := hA.upd ((Upd.refl [] _).alloc _) (by simp) (by simp)
              have hMw : MirAt (wr.alloc (.cells #[.int .i64 2, .int .i64 da, .int .i64 db, .int .i64 dn, .int .i64 dv] 46)) w2.heap.size A := ((Upd.refl [] wr).alloc _).heap hM (by simp)
              have hUw : Upd [] w (wr.alloc (.cells #[.int .i64 2, .int .i64 da, .int .i64 db, .int .i64 dn, .int .i64 dv] 46)) := hU.alloc _

              have HAw := Lib.hid hAw
              have HMw := Lib.hid hMw
              have HUw := Lib.hid hUw
              clear hAw hMw hUw

              go_wp2_with fail
              refine (copy_no _ _ _ _ _ _ _ HAw.out (by have := HL.out; omega) (by omega) (by omega)).mono ?_
              rintro e w' ⟨rfl, rfl⟩
              have hAw := HAw.out
              have hMw := HMw.out
              have hUw := HUw.out
              clear HAw HMw HUw
              go_wp2_with fail

              generalize (wr.alloc (.cells #[.int .i64 2, .int .i64 da, .int .i64 db, .int .i64 dn, .int .i64 dv] 46)) = wc at *
              have hA3 := hAw
              have hM3 := hMw
              have hU3 := hUw
              have HL3 := HL

              refine (load_out _ _ _ _ _ hA3 (by have := HL3.out; omega)).mono ?_
              rintro e w' ⟨rfl, rfl⟩
              go_wp2_with fail
              go_roundw
              case rel => exact ⟨j + 1, A, by omega, by go_num, hA3, hM3, hU3, HL3⟩
              case measure => simp [intOf]; omega
        · have e0 : (kd == 1) = false := by rw [beq_eq_false_iff_ne]; exact hk1
          have e00 : (kd == 2) = false := by rw [beq_eq_false_iff_ne]; exact hk2
          clear hk1 hk2
          by_cases hda : 0 < da
          · obtain ⟨al, rfl⟩ := Int.eq_ofNat_of_zero_le (Int.le_of_lt hda)
            as_aux_lemma =>
              have hAw : ArAt (wr.alloc (.cells #[.int .i64 kd, .int .i64 (al : Int), .int .i64 db, .int .i64 dn, .int .i64 dv] 46)) (w1.heap.size + 1) w1.heap.size A := hA.upd ((Upd.refl [] _).alloc _) (by simp) (by simp)
              have hMw : MirAt (wr.alloc (.cells #[.int .i64 kd, .int .i64 (al : Int), .int .i64 db, .int .i64 dn, .int .i64 dv] 46)) w2.heap.size A := ((Upd.refl [] wr).alloc _).heap hM (by simp)
              have hUw : Upd [] w (wr.alloc (.cells #[.int .i64 kd, .int .i64 (al : Int), .int .i64 db, .int .i64 dn, .int .i64 dv] 46)) := hU.alloc _

              have HAw := Lib.hid hAw
              have HMw := Lib.hid hMw
              have HUw := Lib.hid hUw
              clear hAw hMw hUw

              go_wp2_with fail
              refine (clear_any _ _ _ _ _ _ HAw.out).mono ?_
              rintro e w3 ⟨rfl, hA2, hU3a⟩

              have hDb : w3.heap[wr.heap.size]? = some (.cells #[.int .i64 kd, .int .i64 (al : Int), .int .i64 db, .int .i64 dn, .int .i64 dv] 46) := hU3a.heap (heap_alloc_new wr _) (by simp; have := lt_of_heap hA.2.1; omega)
              have dc1 : w3.cell? ⟨wr.heap.size, 1, none⟩ = some (.int .i64 (al : Int)) := by rw [cell_of hDb]; rfl
              have dc2 : w3.cell? ⟨wr.heap.size, 2, none⟩ = some (.int .i64 db) := by rw [cell_of hDb]; rfl
              have dc3 : w3.cell? ⟨wr.heap.size, 3, none⟩ = some (.int .i64 dn) := by rw [cell_of hDb]; rfl
              have dc4 : w3.cell? ⟨wr.heap.size, 4, none⟩ = some (.int .i64 dv) := by rw [cell_of hDb]; rfl

              have hM2 : MirAt w3 w2.heap.size A := hU3a.heap HMw.out (by simp; have := HZ.out; omega)
              have hU2 : Upd [] w w3 := HUw.out.trans' hU3a (by intro i hi h2; simp at hi; have := HS.out; omega)
              have hD3 : Hid (w3.heap[wr.heap.size]? = some (.cells #[.int .i64 kd, .int .i64 (al : Int), .int .i64 db, .int .i64 dn, .int .i64 dv] 46)) := hDb
              have hwr : Hid (wr.heap.size ≠ w2.heap.size) := by show _ ≠ _; have := lt_of_heap hM; omega
              clear hDb hU3a dc2 dc3 dc4
              go_wp2_with fail
              clear hA hM hU dc1
              obtain ⟨wo, rfl⟩ : ∃ wo : World, wo = wr := ⟨_, rfl⟩
              go_loopw [19] (fun i w5 => ∃ kk : Nat, al ≤ kk ∧ (kk = al ∨ (kk ≤ n ∧ (kk : Int) ≤ db)) ∧ i = .int .i64 kk ∧ MirAt w5 w2.heap.size (splice A al (List.replicate (kk - al) 0)) ∧ Upd [w2.heap.size] w3 w5) (fun i _ => n - (intOf i).toNat)
              case atStart => exact ⟨al, by omega, by omega, rfl, by simpa [splice] using hM2, Upd.refl _ _⟩
              case round =>
                obtain ⟨kk, hk0, hk1, rfl, hM5, hU5⟩ := hrel
                have hD5 := hU5.heap hD3.out (by simp; exact hwr.out)
                have dc2 : wr.cell? ⟨wo.heap.size, 2, none⟩ = some (.int .i64 db) := by rw [cell_of hD5]; rfl
                clear hD5
                by_cases hkl : (kk : Int) < db ∧ kk < n
                · obtain ⟨hkl1, hkl2⟩ := hkl
                  have hlr : al + (List.replicate (kk - al) (0 : Int)).length = kk := by rw [List.length_replicate]; omega
                  have HSS := Lib.hid (splice_snoc A (List.replicate (kk - al) 0) al 0 (by rw [hlr]; have := HL.out; omega))
                  have HLR := Lib.hid hlr
                  have HLY := Lib.hid (show (splice A al (List.replicate (kk - al) 0)).length = n by rw [length_splice _ _ _ (by rw [hlr]; have := HL.out; omega)]; exact HL.out)
                  clear hlr
                  have mc : wr.cell? ⟨w2.heap.size, kk, none⟩ = some (.int .i64 ((splice A al (List.replicate (kk - al) 0)).getD kk 0)) := by rw [cell_of hM5]; exact icells_get _ _ (by have := HLY.out; omega)
                  generalize (splice A al (List.replicate (kk - al) 0)).getD kk 0 = y at mc
                  have mf : wr.frozen? ⟨w2.heap.size, kk, none⟩ = false := froz_of hM5 _
                  have hM6 : MirAt (wr.setCell ⟨w2.heap.size, kk, none⟩ (.int .i64 0)) w2.heap.size (splice A al (List.replicate (kk + 1 - al) 0)) := by
                    have := heap_setCell hM5 kk (.int .i64 0)
                    rw [icells_set] at this
                    have h1 := HSS.out
                    rw [HLR.out] at h1
                    rw [show kk + 1 - al = (kk - al) + 1 by omega, List.replicate_succ', ← h1]
                    exact this
                  have hU6 : Upd [w2.heap.size] w3 (wr.setCell ⟨w2.heap.size, kk, none⟩ (.int .i64 0)) := hU5.setCell (by simp) _
                  have HM6 := Lib.hid hM6
                  have HU6 := Lib.hid hU6
                  clear hM6 hU6
                  go_wp2_with fail
                  all_goals
                    go_roundw
                    case rel => exact ⟨kk + 1, by omega, by omega, by go_num, HM6.out, HU6.out⟩
                    case measure => simp [intOf]; omega
                · have hend : splice A al (List.replicate (kk - al) 0) = clearL A (al : Int) db := by
                    unfold clearL
                    have e1 : ((al : Int) : Int).toNat = al := by omega
                    have e2 : ((min db (A.length : Int)) - (max (al : Int) 0)).toNat = kk - al := by have := HL.out; omega
                    rw [e1, e2]
                  have hM5' := hM5
                  rw [hend] at hM5'
                  have HM5 := Lib.hid hM5'
                  clear hend hM5 hM5'
                  have HL3 : Hid ((clearL A (al : Int) db).length = n) := by
                    show _ = _
                    rw [clearL_len]; exact HL.out
                  go_wp2_with fail
                  all_goals
                    have hA3 : ArAt wr (w1.heap.size + 1) w1.heap.size (clearL A (al : Int) db) := hA2.upd hU5 (by simp; have := HZ.out; omega) (by simp; have := HZ.out; omega)
                    have hM3 := HM5.out
                    have hU3 : Upd [] w wr := hU2.trans' hU5 (by intro i hi h2; simp at hi; have := HZ.out; have := HS.out; omega)
                    generalize clearL A (al : Int) db = A3 at *
                    obtain ⟨wc, hwc⟩ : ∃ wc, wc = wr := ⟨_, rfl⟩
                    rw [← hwc] at hA3 hM3 hU3 ⊢
                    clear hwc hA2 HM5
                    refine (load_out _ _ _ _ _ hA3 (by have := HL3.out; omega)).mono ?_
                    rintro e w' ⟨rfl, rfl⟩
                    go_wp2_with fail
                    go_roundw
                    case rel => exact ⟨j + 1, A3, by omega, by go_num, hA3, hM3, hU3, HL3⟩
                    case measure => simp [intOf]; omega
          · 
            as_aux_lemma =>
              have hAw : ArAt (wr.alloc (.cells #[.int .i64 kd, .int .i64 da, .int .i64 db, .int .i64 dn, .int .i64 dv] 46)) (w1.heap.size + 1) w1.heap.size A := hA.upd ((Upd.refl [] _).alloc _) (by simp) (by simp)
              have hMw : MirAt (wr.alloc (.cells #[.int .i64 kd, .int .i64 da, .int .i64 db, .int .i64 dn, .int .i64 dv] 46)) w2.heap.size A := ((Upd.refl [] wr).alloc _).heap hM (by simp)
              have hUw : Upd [] w (wr.alloc (.cells #[.int .i64 kd, .int .i64 da, .int .i64 db, .int .i64 dn, .int .i64 dv] 46)) := hU.alloc _

              have HAw := Lib.hid hAw
              have HMw := Lib.hid hMw
              have HUw := Lib.hid hUw
              clear hAw hMw hUw

              go_wp2_with fail
              refine (clear_any _ _ _ _ _ _ HAw.out).mono ?_
              rintro e w3 ⟨rfl, hA2, hU3a⟩

              have hDb : w3.heap[wr.heap.size]? = some (.cells #[.int .i64 kd, .int .i64 da, .int .i64 db, .int .i64 dn, .int .i64 dv] 46) := hU3a.heap (heap_alloc_new wr _) (by simp; have := lt_of_heap hA.2.1; omega)
              have dc1 : w3.cell? ⟨wr.heap.size, 1, none⟩ = some (.int .i64 da) := by rw [cell_of hDb]; rfl
              have dc2 : w3.cell? ⟨wr.heap.size, 2, none⟩ = some (.int .i64 db) := by rw [cell_of hDb]; rfl
              have dc3 : w3.cell? ⟨wr.heap.size, 3, none⟩ = some (.int .i64 dn) := by rw [cell_of hDb]; rfl
              have dc4 : w3.cell? ⟨wr.heap.size, 4, none⟩ = some (.int .i64 dv) := by rw [cell_of hDb]; rfl

              have hM2 : MirAt w3 w2.heap.size A := hU3a.heap HMw.out (by simp; have := HZ.out; omega)
              have hU2 : Upd [] w w3 := HUw.out.trans' hU3a (by intro i hi h2; simp at hi; have := HS.out; omega)
              have hD3 : Hid (w3.heap[wr.heap.size]? = some (.cells #[.int .i64 kd, .int .i64 da, .int .i64 db, .int .i64 dn, .int .i64 dv] 46)) := hDb
              have hwr : Hid (wr.heap.size ≠ w2.heap.size) := by show _ ≠ _; have := lt_of_heap hM; omega
              clear hDb hU3a dc2 dc3 dc4
              go_wp2_with fail
              clear hA hM hU dc1
              obtain ⟨wo, rfl⟩ : ∃ wo : World, wo = wr := ⟨_, rfl⟩
              go_loopw [19] (fun i w5 => ∃ kk : Nat, 0 ≤ kk ∧ (kk = 0 ∨ (kk ≤ n ∧ (kk : Int) ≤ db)) ∧ i = .int .i64 kk ∧ MirAt w5 w2.heap.size (splice A 0 (List.replicate (kk - 0) 0)) ∧ Upd [w2.heap.size] w3 w5) (fun i _ => n - (intOf i).toNat)
              case atStart => exact ⟨0, by omega, by omega, rfl, by simpa [splice] using hM2, Upd.refl _ _⟩
              case round =>
                obtain ⟨kk, hk0, hk1, rfl, hM5, hU5⟩ := hrel
                have hD5 := hU5.heap hD3.out (by simp; exact hwr.out)
                have dc2 : wr.cell? ⟨wo.heap.size, 2, none⟩ = some (.int .i64 db) := by rw [cell_of hD5]; rfl
                clear hD5
                by_cases hkl : (kk : Int) < db ∧ kk < n
                · obtain ⟨hkl1, hkl2⟩ := hkl
                  have hlr : 0 + (List.replicate (kk - 0) (0 : Int)).length = kk := by rw [List.length_replicate]; omega
                  have HSS := Lib.hid (splice_snoc A (List.replicate (kk - 0) 0) 0 0 (by rw [hlr]; have := HL.out; omega))
                  have HLR := Lib.hid hlr
                  have HLY := Lib.hid (show (splice A 0 (List.replicate (kk - 0) 0)).length = n by rw [length_splice _ _ _ (by rw [hlr]; have := HL.out; omega)]; exact HL.out)
                  clear hlr
                  have mc : wr.cell? ⟨w2.heap.size, kk, none⟩ = some (.int .i64 ((splice A 0 (List.replicate (kk - 0) 0)).getD kk 0)) := by rw [cell_of hM5]; exact icells_get _ _ (by have := HLY.out; omega)
                  generalize (splice A 0 (List.replicate (kk - 0) 0)).getD kk 0 = y at mc
                  have mf : wr.frozen? ⟨w2.heap.size, kk, none⟩ = false := froz_of hM5 _
                  have hM6 : MirAt (wr.setCell ⟨w2.heap.size, kk, none⟩ (.int .i64 0)) w2.heap.size (splice A 0 (List.replicate (kk + 1 - 0) 0)) := by
                    have := heap_setCell hM5 kk (.int .i64 0)
                    rw [icells_set] at this
                    have h1 := HSS.out
                    rw [HLR.out] at h1
                    rw [show kk + 1 - 0 = (kk - 0) + 1 by omega, List.replicate_succ', ← h1]
                    exact this
                  have hU6 : Upd [w2.heap.size] w3 (wr.setCell ⟨w2.heap.size, kk, none⟩ (.int .i64 0)) := hU5.setCell (by simp) _
                  have HM6 := Lib.hid hM6
                  have HU6 := Lib.hid hU6
                  clear hM6 hU6
                  go_wp2_with fail
                  all_goals
                    go_roundw
                    case rel => exact ⟨kk + 1, by omega, by omega, by go_num, HM6.out, HU6.out⟩
                    case measure => simp [intOf]; omega
                · have hend : splice A 0 (List.replicate (kk - 0) 0) = clearL A da db := by
                    unfold clearL
                    have e1 : (da : Int).toNat = 0 := by omega
                    have e2 : ((min db (A.length : Int)) - (max da 0)).toNat = kk - 0 := by have := HL.out; omega
                    rw [e1, e2]
                  have hM5' := hM5
                  rw [hend] at hM5'
                  have HM5 := Lib.hid hM5'
                  clear hend hM5 hM5'
                  have HL3 : Hid ((clearL A da db).length = n) := by
                    show _ = _
                    rw [clearL_len]; exact HL.out
                  go_wp2_with fail
                  all_goals
                    have hA3 : ArAt wr (w1.heap.size + 1) w1.heap.size (clearL A da db) := hA2.upd hU5 (by simp; have := HZ.out; omega) (by simp; have := HZ.out; omega)
                    have hM3 := HM5.out
                    have hU3 : Upd [] w wr := hU2.trans' hU5 (by intro i hi h2; simp at hi; have := HZ.out; have := HS.out; omega)
                    generalize clearL A da db = A3 at *
                    obtain ⟨wc, hwc⟩ : ∃ wc, wc = wr := ⟨_, rfl⟩
                    rw [← hwc] at hA3 hM3 hU3 ⊢
                    clear hwc hA2 HM5
                    refine (load_out _ _ _ _ _ hA3 (by have := HL3.out; omega)).mono ?_
                    rintro e w' ⟨rfl, rfl⟩
                    go_wp2_with fail
                    go_roundw
                    case rel => exact ⟨j + 1, A3, by omega, by go_num, hA3, hM3, hU3, HL3⟩
                    case measure => simp [intOf]; omega
    · obtain rfl : j = k := by omega
      go_wp2_with fail
      go_loopw [23] (fun i w5 => ∃ z : Nat, z ≤ n ∧ i = .int .i64 z ∧ ArAt w5 (w1.heap.size + 1) w1.heap.size A ∧ MirAt w5 w2.heap.size A ∧ Upd [] w w5) (fun i _ => n - (intOf i).toNat)
      case atStart => exact ⟨0, by omega, rfl, hA, hM, hU⟩
      case round =>
        clear hA hM hU
        obtain ⟨z, hz, rfl, hA, hM, hU⟩ := hrel
        by_cases hzl : z < n
        · have mc : wr.cell? ⟨w2.heap.size, z, none⟩ = some (.int .i64 (A.getD z 0)) := by rw [cell_of hM]; exact icells_get A z (by have := HL.out; omega)
          generalize hgx : A.getD z 0 = gx at mc
          have HGX := Lib.hid hgx
          clear hgx
          go_wp2_with fail
          refine (load_is _ _ _ _ gx _ hA (by omega) (by have := HL.out; omega) (by rw [Int.toNat_natCast]; exact HGX.out)).mono ?_
          rintro e w' ⟨rfl, rfl⟩
          go_wp2_with fail
          go_roundw
          case rel => exact ⟨z + 1, by omega, by go_num, hA, hM, hU⟩
          case measure => simp [intOf]; omega
        · obtain rfl : z = n := by omega
          go_wp2_with fail
          go_ret
          exact ⟨rfl, hU⟩

end Go.Proofs.YtlddnpcpioligaaDoor
