/- LiveLast: the law's walk. -/
import Derived.Test.YtpmfbhoochogoaaGreatDoorLasL
import Derived.Test.YtpmfbhoochogoaaGreatDoorRfAt
import Derived.Test.YtpmfbhoochogoaaGreatDoorFrame
import Derived.Test.YtpmfbhoochogoaaGreatDoorNumA
/-! LiveLast: the law's walk. -/
namespace Go.Proofs.YtpmfbhoochogoaaGreatDoor
open Go.RowKit

set_option maxRecDepth 100000 in
set_option maxHeartbeats 8000000 in
theorem lasW_any (E : Nat → Addr) (x0 x1 x2 : Int) (lp : Bool) (w : World) (hS : SentAt w E) (hT : TzAt w) :
    Calls Tryz.prog 7 #[.int .i64 x0, .int .i64 x1, .int .i64 x2, .bool lp] w fun e w' => e = .returned (.bool true) ∧ Upd [] w w' := by
  obtain ⟨i0, hi, hz0, hz1, hz2⟩ := info_parts Tryz.infoInstr
  have HI := Lib.hid hi
  have HZ0 := Lib.hid hz0
  have HZ1 := Lib.hid hz1
  have HZ2 := Lib.hid hz2
  clear hi hz0 hz1 hz2
  have HS := Lib.hid hS
  have HT := Lib.hid hT
  clear hS hT
  have hb1 := tmod_bd x0 20 (by omega)
  go_enter Tryz.func7, Tryz.ntmps7
  go_wp2_with fail
  refine (first8_any E w HS.out HT.out).mono ?_
  rintro e w1 ⟨rfl, hu1⟩
  have HU1 := Lib.hid hu1
  clear hu1
  go_upto_region 3 with fail
  obtain ⟨n, hn2, hn21, hne⟩ : ∃ n : Nat, 2 ≤ n ∧ n ≤ 21 ∧ x0.tmod 20 % 20 + 2 = (n : Int) := ⟨(x0.tmod 20 % 20 + 2).toNat, by omega, by omega, by omega⟩
  rw [hne]
  generalize (x0.tmod 20 + 20) % 20 = z24
  clear hne hb1
  have hb2 := tmod_bd x1 (n : Int) (by omega)
  have hb3 := tmod_bd x2 3 (by omega)
  have hnz : ((n : Int) == 0) = false := by rw [beq_eq_false_iff_ne]; omega
  go_upto_region 5 with fail
  obtain ⟨t, ht, hte⟩ : ∃ t : Nat, t < n ∧ (x1.tmod (n : Int) + (n : Int)) % (n : Int) = (t : Int) := by
    have h1 := Int.emod_nonneg (x1.tmod (n : Int) + (n : Int)) (show (n : Int) ≠ 0 by omega)
    have h2 := Int.emod_lt_of_pos (x1.tmod (n : Int) + (n : Int)) (show (0 : Int) < (n : Int) by omega)
    exact ⟨((x1.tmod (n : Int) + (n : Int)) % (n : Int)).toNat, by omega, by omega⟩
  obtain ⟨loc, hloc, hle⟩ : ∃ loc : Nat, loc < 3 ∧ (x2.tmod 3 + 3) % 3 = (loc : Int) := ⟨((x2.tmod 3 + 3) % 3).toNat, by omega, by omega⟩
  rw [hte, hle]
  clear hte hle hb2 hb3 hnz
  have hM2 := heap_alloc_new w1 (.cells #[.string ⟨#[]⟩, .string ⟨#[73, 73, 73]⟩, .string ⟨#[]⟩, .slice none 0 0] 27)
  have HU2 := Lib.hid (HU1.out.alloc (.cells #[.string ⟨#[]⟩, .string ⟨#[73, 73, 73]⟩, .string ⟨#[]⟩, .slice none 0 0] 27))
  have hzb := HU1.out.size
  have HM2 := Lib.hid hM2
  clear hM2
  go_upto_region 6 with fail
  generalize w1.alloc (.cells #[.string ⟨#[]⟩, .string ⟨#[73, 73, 73]⟩, .string ⟨#[]⟩, .slice none 0 0] 27) = w2 at HM2 HU2 ⊢
  generalize w1.heap.size = b at HM2 hzb ⊢
  have HR2 : Hid (RfAt w w2 b ⟨#[]⟩ ⟨#[73, 73, 73]⟩ ⟨#[]⟩ (.slice none 0 0) []) := ⟨HM2.out, OwnX.nil _ _, HU2.out, hzb⟩
  clear HM2 HU2 HU1
  go_wp2_with fail
  go_loopw [11, 12] (fun iv _ wr => ∃ (i : Nat) (kv : Value), i ≤ n ∧ iv = .int .i64 i ∧ Hid (RfAt w wr b ⟨#[]⟩ ⟨#[73, 73, 73]⟩ ⟨#[]⟩ kv (lastP t (loc : Int) i))) (fun iv _ _ => n - (intOf iv).toNat)
  case atStart => exact ⟨0, _, by omega, rfl, HR2.out⟩
  case round =>
    clear HR2
    obtain ⟨i, kv, hi, rfl, HR⟩ := hrel
    obtain ⟨wo, rfl⟩ : ∃ wo : World, wo = wr := ⟨_, rfl⟩
    by_cases hlt : i < n
    · have HLEN : Hid ((lastP t (loc : Int) i).length = 2 * i) := lastP_len t loc i
      have hx1 := heap_alloc_new wo (.cells #[.int .i64 1, .int .i64 0, .int .i64 0, .int .i64 7] 24)
      have hux := (Upd.refl [] wo).alloc (.cells #[.int .i64 1, .int .i64 0, .int .i64 0, .int .i64 7] 24)
      by_cases hit : i = t
      · subst hit
        go_upto_region 12 with fail
        have hx1 := heap_alloc_new wo (.cells #[.int .i64 3, .int .i64 loc, .int .i64 0, .int .i64 0] 24)
        have hux := (Upd.refl [] wo).alloc (.cells #[.int .i64 3, .int .i64 loc, .int .i64 0, .int .i64 0] 24)
        have HR := Lib.hid (HR.out.upd hux)
        clear hux
        generalize wo.alloc (.cells #[.int .i64 3, .int .i64 loc, .int .i64 0, .int .i64 0] 24) = w5 at hx1 HR ⊢
        have q0 : w5.cell? ⟨wo.heap.size, 0, none⟩ = some (.int .i64 3) := by rw [cell_of hx1]; rfl
        have q1 : w5.cell? ⟨wo.heap.size, 1, none⟩ = some (.int .i64 loc) := by rw [cell_of hx1]; rfl
        have q2 : w5.cell? ⟨wo.heap.size, 2, none⟩ = some (.int .i64 0) := by rw [cell_of hx1]; rfl
        have q3 : w5.cell? ⟨wo.heap.size, 3, none⟩ = some (.int .i64 0) := by rw [cell_of hx1]; rfl
        clear hx1
        obtain ⟨kp, kc, hkv⟩ := HR.out.c.shape
        have hkl : (lastP i (loc : Int) i).length = 2 * i := HLEN.out
        rw [hkl] at hkv
        subst hkv
        have HKL := Lib.hid hkl
        clear hkl
        have b3 := HR.out.cells.2.2.2
        have hz3 := froz_of HR.out.m 3
        go_wp2_with (at_builtin; refine stop_here ?_)
        refine Hid.mk ?_
        have hup := (Upd.refl [] w5).alloc (.cells #[.int .i64 3, .int .i64 loc, .int .i64 0, .int .i64 0, .int .i64 35, .int .i64 0, .int .i64 0, .int .i64 0] 24)
        have hrow : (w5.alloc (.cells #[.int .i64 3, .int .i64 loc, .int .i64 0, .int .i64 0, .int .i64 35, .int .i64 0, .int .i64 0, .int .i64 0] 24)).ownsRow (b + 1) 24 4 (.slice kp (2 * i) kc) (2 * i) (xcells (lastP i (loc : Int) i)) := by
          have h9 := HR.out.c.upd hup
          unfold OwnX at h9
          rwa [HKL.out] at h9
        have hsz := lt_of_heap HR.out.m
        refine (wpList_append_src rfl _ _ 25 rfl (b + 1) 24 i0 _ 4 32 Tryz.underlying25 HI.out HZ0.out HZ1.out HZ2.out rfl (by decide) _ _ _ rfl hrow _ 2 (xcells [⟨3, (loc : Int), 0, 0⟩, ⟨35, 0, 0, 0⟩]) rfl (.inr ⟨_, _, rfl, fun jj u hu => by
          rw [Addr.add_lit, Nat.zero_add, cell_of (heap_alloc_new w5 _)]
          show ((xcells [⟨3, (loc : Int), 0, 0⟩, ⟨35, 0, 0, 0⟩]).toArray)[jj]? = some u
          rw [List.getElem?_toArray]
          exact hu⟩) rfl (xcells_one _) (by unfold maxLen; omega) (by omega) (by simp; omega) ?_)
        intro v' w7 hown hgr _
        obtain ⟨⟨g, c', rfl⟩, hb7, hz7, hu7, hub, hrf⟩ := (HR.out.upd hup).push (ys := [⟨3, (loc : Int), 0, 0⟩, ⟨35, 0, 0, 0⟩]) (n := 2 * i + 2) (by rw [HKL.out]; rfl) (by omega) hown hgr
        have HR7 := Lib.hid hrf
        clear hown hgr hrow hsz hup hu7 hub hrf b3 hz3 HR HKL
        have HRN : Hid (RfAt w (w7.setCell ⟨b, 3, none⟩ (.slice (some ⟨g, 0, none⟩) (2 * i + 2) c')) b ⟨#[]⟩ ⟨#[73, 73, 73]⟩ ⟨#[]⟩ (.slice (some ⟨g, 0, none⟩) (2 * i + 2) c') (lastP i (loc : Int) (i + 1))) := by
          have h9 := HR7.out
          show RfAt _ _ _ _ _ _ _ (lastP i (loc : Int) i ++ [if i = i then _ else _, _])
          rw [if_pos rfl]
          exact h9
        clear HR7
        go_wp2_with fail
        go_roundw
        case rel => exact ⟨i + 1, _, by omega, by go_num, HRN.out⟩
        case measure => simp [intOf]; omega
      · have g0 : ((i : Int) == (t : Int)) = false := by rw [beq_eq_false_iff_ne]; omega
        have g1 : (i == t) = false := by rw [beq_eq_false_iff_ne]; exact hit
        have HIT := Lib.hid hit
        clear hit
        go_upto_region 12 with fail
        have HR := Lib.hid (HR.out.upd hux)
        clear hux
        generalize wo.alloc (.cells #[.int .i64 1, .int .i64 0, .int .i64 0, .int .i64 7] 24) = w5 at hx1 HR ⊢
        have q0 : w5.cell? ⟨wo.heap.size, 0, none⟩ = some (.int .i64 1) := by rw [cell_of hx1]; rfl
        have q1 : w5.cell? ⟨wo.heap.size, 1, none⟩ = some (.int .i64 0) := by rw [cell_of hx1]; rfl
        have q2 : w5.cell? ⟨wo.heap.size, 2, none⟩ = some (.int .i64 0) := by rw [cell_of hx1]; rfl
        have q3 : w5.cell? ⟨wo.heap.size, 3, none⟩ = some (.int .i64 7) := by rw [cell_of hx1]; rfl
        clear hx1
        obtain ⟨kp, kc, hkv⟩ := HR.out.c.shape
        have hkl : (lastP t (loc : Int) i).length = 2 * i := HLEN.out
        rw [hkl] at hkv
        subst hkv
        have HKL := Lib.hid hkl
        clear hkl
        have b3 := HR.out.cells.2.2.2
        have hz3 := froz_of HR.out.m 3
        go_wp2_with (at_builtin; refine stop_here ?_)
        refine Hid.mk ?_
        have hup := (Upd.refl [] w5).alloc (.cells #[.int .i64 1, .int .i64 0, .int .i64 0, .int .i64 7, .int .i64 35, .int .i64 0, .int .i64 0, .int .i64 0] 24)
        have hrow : (w5.alloc (.cells #[.int .i64 1, .int .i64 0, .int .i64 0, .int .i64 7, .int .i64 35, .int .i64 0, .int .i64 0, .int .i64 0] 24)).ownsRow (b + 1) 24 4 (.slice kp (2 * i) kc) (2 * i) (xcells (lastP t (loc : Int) i)) := by
          have h9 := HR.out.c.upd hup
          unfold OwnX at h9
          rwa [HKL.out] at h9
        have hsz := lt_of_heap HR.out.m
        refine (wpList_append_src rfl _ _ 25 rfl (b + 1) 24 i0 _ 4 32 Tryz.underlying25 HI.out HZ0.out HZ1.out HZ2.out rfl (by decide) _ _ _ rfl hrow _ 2 (xcells [⟨1, 0, 0, 7⟩, ⟨35, 0, 0, 0⟩]) rfl (.inr ⟨_, _, rfl, fun jj u hu => by
          rw [Addr.add_lit, Nat.zero_add, cell_of (heap_alloc_new w5 _)]
          show ((xcells [⟨1, 0, 0, 7⟩, ⟨35, 0, 0, 0⟩]).toArray)[jj]? = some u
          rw [List.getElem?_toArray]
          exact hu⟩) rfl (xcells_one _) (by unfold maxLen; omega) (by omega) (by simp; omega) ?_)
        intro v' w7 hown hgr _
        obtain ⟨⟨g, c', rfl⟩, hb7, hz7, hu7, hub, hrf⟩ := (HR.out.upd hup).push (ys := [⟨1, 0, 0, 7⟩, ⟨35, 0, 0, 0⟩]) (n := 2 * i + 2) (by rw [HKL.out]; rfl) (by omega) hown hgr
        have HR7 := Lib.hid hrf
        clear hown hgr hrow hsz hup hu7 hub hrf b3 hz3 HR HKL
        have HRN : Hid (RfAt w (w7.setCell ⟨b, 3, none⟩ (.slice (some ⟨g, 0, none⟩) (2 * i + 2) c')) b ⟨#[]⟩ ⟨#[73, 73, 73]⟩ ⟨#[]⟩ (.slice (some ⟨g, 0, none⟩) (2 * i + 2) c') (lastP t (loc : Int) (i + 1))) := by
          have h9 := HR7.out
          show RfAt _ _ _ _ _ _ _ (lastP t (loc : Int) i ++ [if i = t then _ else _, _])
          rw [if_neg HIT.out]
          exact h9
        clear HR7
        go_wp2_with fail
        go_roundw
        case rel => exact ⟨i + 1, _, by omega, by go_num, HRN.out⟩
        case measure => simp [intOf]; omega
    · obtain rfl : n = i := by omega
      have HLEN : Hid ((lastP t (loc : Int) n).length = 2 * n) := lastP_len t loc n
      have HR0 : Hid (w.heap.size ≤ b) := HR.out.lo
      cases lp with
      | false =>
        obtain ⟨kp, kc, hkv⟩ := HR.out.c.shape
        have hkl : (lastP t (loc : Int) n).length = 2 * n := HLEN.out
        rw [hkl] at hkv
        subst hkv
        have HKL := Lib.hid hkl
        clear hkl
        have b3 := HR.out.cells.2.2.2
        have hz3 := froz_of HR.out.m 3
        go_wp2_with (at_builtin; refine stop_here ?_)
        refine Hid.mk ?_
        have hup := (Upd.refl [] wo).alloc (.cells #[.int .i64 33, .int .i64 0, .int .i64 0, .int .i64 0] 24)
        have hrow : (wo.alloc (.cells #[.int .i64 33, .int .i64 0, .int .i64 0, .int .i64 0] 24)).ownsRow (b + 1) 24 4 (.slice kp (2 * n) kc) (2 * n) (xcells (lastP t (loc : Int) n)) := by
          have h9 := HR.out.c.upd hup
          unfold OwnX at h9
          rwa [HKL.out] at h9
        have hsz := lt_of_heap HR.out.m
        refine (wpList_append_src rfl _ _ 25 rfl (b + 1) 24 i0 _ 4 32 Tryz.underlying25 HI.out HZ0.out HZ1.out HZ2.out rfl (by decide) _ _ _ rfl hrow _ 1 (xcells [⟨33, 0, 0, 0⟩]) rfl (.inr ⟨_, _, rfl, fun jj u hu => by
          rw [Addr.add_lit, Nat.zero_add, cell_of (heap_alloc_new wo _)]
          show ((xcells [⟨33, 0, 0, 0⟩]).toArray)[jj]? = some u
          rw [List.getElem?_toArray]
          exact hu⟩) rfl (xcells_one _) (by unfold maxLen; omega) (by omega) (by simp; omega) ?_)
        intro v' w7 hown hgr _
        obtain ⟨⟨g, c', rfl⟩, hb7, hz7, hu7, hub, hrf⟩ := (HR.out.upd hup).push (ys := [⟨33, 0, 0, 0⟩]) (n := 2 * n + 1) (by rw [HKL.out]; rfl) (by omega) hown hgr
        have HR7 := Lib.hid hrf
        clear hown hgr hrow hsz hup hu7 hub hrf b3 hz3 HR HKL
        have HRN : Hid (RfAt w (w7.setCell ⟨b, 3, none⟩ (.slice (some ⟨g, 0, none⟩) (2 * n + 1) c')) b ⟨#[]⟩ ⟨#[73, 73, 73]⟩ ⟨#[]⟩ (.slice (some ⟨g, 0, none⟩) (2 * n + 1) c') (lasC t loc n false)) := HR7.out
        clear HR7 HLEN
        have hcl := lasC_len t loc n false
        have hcd := HRN.out.c.code (fun q hq => las_bd t loc n false hloc q hq)
        go_upto_region 16 with fail
        generalize w7.setCell ⟨b, 3, none⟩ (.slice (some ⟨g, 0, none⟩) (2 * n + 1) c') = w8 at HRN hcd ⊢
        have hC1 := code_lit w8 r8.code (by decide) (fun i hi => by
          obtain rfl : i = 0 := by have h : r8.code.length = 1 := rfl; omega
          exact bd_tiny (by decide))
        have hA9 := (Upd.refl [] w8).alloc (.cells (xcells r8.code).toArray 24)
        have hcd9 := hcd.upd hA9
        have z9 : (w8.alloc (.cells (xcells r8.code).toArray 24)).heap.size = w8.heap.size + 1 := by simp
        generalize hw9 : w8.alloc (.cells (xcells r8.code).toArray 24) = w9 at hA9 hC1 hcd9 z9
        have hM := meths_lit w9 [r8, lasM t loc n false] [.slice (some ⟨w8.heap.size, 0, none⟩) 1 1, .slice (some ⟨g, 0, none⟩) (2 * n + 1) c'] rfl (by simp) (fun i hi => by
          have : i = 0 ∨ i = 1 := by have h : [r8, lasM t loc n false].length = 2 := rfl; omega
          rcases this with rfl | rfl
          · exact ⟨by show 0 ≤ maxLen; decide, by show 0 ≤ maxLen; decide, by show 0 ≤ maxLen; decide⟩
          · exact ⟨by show 0 ≤ maxLen; decide, by show 3 ≤ maxLen; decide, by show 0 ≤ maxLen; decide⟩) (fun i hi => by
          have : i = 0 ∨ i = 1 := by have h : [r8, lasM t loc n false].length = 2 := rfl; omega
          rcases this with rfl | rfl
          · exact hC1
          · exact hcd9)
        have hA10 := hA9.alloc (.cells (mcells [r8, lasM t loc n false] [.slice (some ⟨w8.heap.size, 0, none⟩) 1 1, .slice (some ⟨g, 0, none⟩) (2 * n + 1) c']).toArray 27)
        have z10 : (w9.alloc (.cells (mcells [r8, lasM t loc n false] [.slice (some ⟨w8.heap.size, 0, none⟩) 1 1, .slice (some ⟨g, 0, none⟩) (2 * n + 1) c']).toArray 27)).heap.size = w8.heap.size + 1 + 1 := by simp [z9]
        generalize hw10 : w9.alloc (.cells (mcells [r8, lasM t loc n false] [.slice (some ⟨w8.heap.size, 0, none⟩) 1 1, .slice (some ⟨g, 0, none⟩) (2 * n + 1) c']).toArray 27) = w10 at hA10 hM z10
        rw [z9] at hM
        have hA12 := hA10.alloc (.cells #[.slice none 0 0, .slice (some ⟨w8.heap.size + 1, 0, none⟩) 2 2] 36)
        have hB12 := heap_alloc_new w10 (.cells #[.slice none 0 0, .slice (some ⟨w8.heap.size + 1, 0, none⟩) 2 2] 36)
        rw [z10] at hB12
        have hM := hM.upd ((Upd.refl [] w10).alloc (.cells #[.slice none 0 0, .slice (some ⟨w8.heap.size + 1, 0, none⟩) 2 2] 36))
        generalize hw12 : w10.alloc (.cells #[.slice none 0 0, .slice (some ⟨w8.heap.size + 1, 0, none⟩) 2 2] 36) = wp at hA12 hB12 hM
        have hW : wp = ((w8.alloc (.cells #[.int .i64 33, .int .i64 0, .int .i64 0, .int .i64 0] 24)).alloc (.cells #[.string ⟨#[]⟩, .string ⟨#[]⟩, .string ⟨#[]⟩, .slice (some ⟨w8.heap.size, 0, none⟩) 1 1, .string ⟨#[]⟩, .string ⟨#[73, 73, 73]⟩, .string ⟨#[]⟩, .slice (some ⟨g, 0, none⟩) (2 * n + 1) c'] 27)).alloc (.cells #[.slice none 0 0, .slice (some ⟨w8.heap.size + 1, 0, none⟩) 2 2] 36) := by
          rw [← hw12, ← hw10, ← hw9]
          rfl
        have HW := Lib.hid hW
        obtain ⟨m0, m1, m2, m3⟩ := HRN.out.cells
        have n0 := hA9.cell m0 (by simp)
        have n1 := hA9.cell m1 (by simp)
        have n2 := hA9.cell m2 (by simp)
        have n3 := hA9.cell m3 (by simp)
        rw [← hw9] at n0 n1 n2 n3
        have n0 : (w8.alloc (.cells #[.int .i64 33, .int .i64 0, .int .i64 0, .int .i64 0] 24)).cell? ⟨b, 0, none⟩ = some (.string ⟨#[]⟩) := n0
        have n1 : (w8.alloc (.cells #[.int .i64 33, .int .i64 0, .int .i64 0, .int .i64 0] 24)).cell? ⟨b, 1, none⟩ = some (.string ⟨#[73, 73, 73]⟩) := n1
        have n2 : (w8.alloc (.cells #[.int .i64 33, .int .i64 0, .int .i64 0, .int .i64 0] 24)).cell? ⟨b, 2, none⟩ = some (.string ⟨#[]⟩) := n2
        have n3 : (w8.alloc (.cells #[.int .i64 33, .int .i64 0, .int .i64 0, .int .i64 0] 24)).cell? ⟨b, 3, none⟩ = some (.slice (some ⟨g, 0, none⟩) (2 * n + 1) c') := n3
        have HR10 := Lib.hid (HRN.out.upd hA12)
        have HS10 := Lib.hid (HS.out.upd HR10.out.u)
        have HM10 := Lib.hid hM
        have HB12 := Lib.hid hB12
        clear hcd hC1 hA9 hcd9 z9 hw9 hM hA10 hw10 hW HRN m0 m1 m2 m3 hA12 hB12 hw12 z10
        go_upto_region 17 with fail
        rw [← HW.out]
        have c0 : wp.cell? ⟨w8.heap.size + 1 + 1, 0, none⟩ = some (.slice none 0 0) := by rw [cell_of HB12.out]; rfl
        have c1 : wp.cell? ⟨w8.heap.size + 1 + 1, 1, none⟩ = some (.slice (some ⟨w8.heap.size + 1, 0, none⟩) 2 2) := by rw [cell_of HB12.out]; rfl
        have HOF := Lib.hid (ofV_any (lasP t loc n false) (.slice none 0 0) (.slice (some ⟨w8.heap.size + 1, 0, none⟩) 2 2) E wp HS10.out (class_nil _) HM10.out)
        clear n0 n1 n2 n3 HW HM10 HB12
        go_wp2_with fail
        refine HOF.out.mono ?_
        rintro e w11 ⟨v1, rfl, hend⟩
        obtain ⟨ib, ss, hsl, hlk, rfl, hinfo, hib, hu11⟩ := hend.good (las_ok t loc n false hloc (by omega)) (las_looks t loc n false hloc)
        have HI5 := Lib.hid (InfoK.start hinfo)
        have HT11 := Lib.hid (HT.out.upd ((HR10.out.u).trans hu11) (by simp))
        have HR11 := Lib.hid (HR10.out.upd hu11)
        have hL1 : lookM (lasP t loc n false) (lasM t loc n false) = .ok (ss.getD 1 default) := hlk 1 (by show 1 < 2; omega)
        have HP : Hid (LvP (lasP t loc n false) ss 1 (lasM t loc n false) (ss.getD 1 default)) := ⟨hsl, by show 1 < 2; omega, las_ok t loc n false hloc (by omega), hlk, rfl, rfl⟩
        have hseen : ∀ i, i ≤ lasL n false → seenF (ss.getD 1 default) i = true := by
          obtain ⟨s2, h1, h2⟩ := las_look t loc n false hloc
          rw [hL1] at h1
          injection h1 with h1
          rw [h1]
          exact h2
        generalize hsd : ss.getD 1 default = s at hL1 HP hseen
        have HSEEN := Lib.hid hseen
        have hibs : ib < w11.heap.size := HI5.out.lt
        have hblt := lt_of_heap HR10.out.m
        have hibp : wp.heap.size ≤ ib := hib
        have HKB := Lib.hid (show ∀ k, (Value.slice (some ⟨g, 0, none⟩) (2 * n + 1) c').ownBlock = some k → k < wp.heap.size from fun k hk => (HR10.out.c.lt k hk).2)
        clear hend hinfo hib hlk hsl hL1 HOF hsd hseen hu11 c0 c1
        go_wp2_with fail
        refine (live_of ib 1 w11).mono ?_
        rintro e w12 ⟨rfl, hw12⟩
        have hb12 := heap_alloc_new w11 (.cells (mapCells ib 1 0 0 nilM (.slice none 0 0) (.slice none 0 0)) 147)
        have hu12 := (Upd.refl [] w11).alloc (.cells (mapCells ib 1 0 0 nilM (.slice none 0 0) (.slice none 0 0)) 147)
        have hz12 : (w11.alloc (.cells (mapCells ib 1 0 0 nilM (.slice none 0 0) (.slice none 0 0)) 147)).heap.size = w11.heap.size + 1 := by simp
        rw [← hw12] at hb12 hu12 hz12
        have HNEW : Hid (LvNew w11 w12 w11.heap.size ib (lasP t loc n false) ss 0 0 1) := ⟨hb12, HI5.out.keep hu12 (by simp), HT11.out.upd hu12 (by simp)⟩
        have HR12 := Lib.hid (HR11.out.upd hu12)
        have HLE12 : Hid (w11.heap.size + 1 ≤ w12.heap.size) := Nat.le_of_eq hz12.symm
        clear hb12 hu12 hw12 hz12 HR10 HR11 HS10
        go_wp2_with fail
        go_loopw [17, 18, 19] (fun iv _ _ wr => ∃ (pc : Nat) (nn : Int), pc ≤ 2 * n + 1 ∧ iv = .int .i64 pc ∧ 0 ≤ nn ∧ nn ≤ 240 * pc ∧ Hid (RfAt w wr b ⟨#[]⟩ ⟨#[73, 73, 73]⟩ ⟨#[]⟩ (.slice (some ⟨g, 0, none⟩) (2 * n + 1) c') (lasC t loc n false)) ∧ Hid (LvNew w11 wr w11.heap.size ib (lasP t loc n false) ss 0 nn 1 ∨ ∃ B lb kv F bk gk, LvD w11 wr w11.heap.size ib (lasP t loc n false) ss 0 nn 1 (lasM t loc n false) s B lb kv F bk gk) ∧ Hid (w11.heap.size + 1 ≤ wr.heap.size)) (fun iv _ _ _ => 2 * n + 1 - (intOf iv).toNat)
        case atStart => exact ⟨0, 0, by omega, rfl, by omega, by omega, HR12.out, .inl HNEW.out, HLE12.out⟩
        case round =>
          obtain ⟨pc, nn, hpc, rfl, hnn0, hnn1, HRl, HLV, HLE⟩ := hrel
          obtain ⟨wl, rfl⟩ : ∃ wl : World, wl = wr := ⟨_, rfl⟩
          clear HR12 HNEW HLE12
          have m3 := HRl.out.cells.2.2.2
          have HAB0 : Hid (∀ ab, ab = wl.heap.size → ab ≠ w11.heap.size ∧ ab ≠ ib) := by
            intro ab hab
            have := HLE.out
            omega
          by_cases hlt : pc < 2 * n + 1
          · by_cases hwa : pc ≤ 2 * t
            · as_aux_lemma =>
              have g1 : decide ((pc : Int) ≤ 2 * (t : Int)) = true := decide_eq_true (by omega)
              have g2 : decide (pc ≤ 2 * t) = true := decide_eq_true hwa
              have HWT : Hid (lasW t n false pc = true) := by
                show _ = _
                unfold lasW lasL
                simp
                omega
              go_upto_region 30 with fail
              have hal := own_int wl [(loc : Int)]
              have hua := (Upd.refl [] wl).alloc (.cells (icells [(loc : Int)]) 3)
              have HAL : Hid (IntsV (wl.alloc (.cells #[.int .i64 loc] 3)) (.slice (some ⟨wl.heap.size, 0, none⟩) 1 1) wl.heap.size [(loc : Int)]) := hal
              have hua : Upd [] wl (wl.alloc (.cells #[.int .i64 loc] 3)) := hua
              have HRc := Lib.hid (HRl.out.upd hua)
              have HLVc : Hid (LvNew w11 (wl.alloc (.cells #[.int .i64 loc] 3)) w11.heap.size ib (lasP t loc n false) ss 0 nn 1 ∨ ∃ B lb kv F bk gk, LvD w11 (wl.alloc (.cells #[.int .i64 loc] 3)) w11.heap.size ib (lasP t loc n false) ss 0 nn 1 (lasM t loc n false) s B lb kv F bk gk) := by
                rcases HLV.out with h | ⟨B, lb, kv, F, bk, gk, h⟩
                · exact .inl (h.upd hua)
                · exact .inr ⟨B, lb, kv, F, bk, gk, h.upd hua⟩
              have hgt : w11.heap.size ≤ wl.heap.size := by have := HLE.out; omega
              have hwcs := hua.size
              clear hal hua
              generalize wl.alloc (.cells #[.int .i64 loc] 3) = wc at HAL HRc HLVc hwcs ⊢
              obtain ⟨ab, hab⟩ : ∃ ab, ab = wl.heap.size := ⟨_, rfl⟩
              rw [← hab] at HAL ⊢
              have hab2 : w11.heap.size ≤ ab := by omega
              have HAB : Hid (ab ≠ w11.heap.size ∧ ab ≠ ib) := HAB0.out ab hab
              clear hab
              have HHA := Lib.hid (lhas_any w11 w11.heap.size ib (lasP t loc n false) ss 0 nn 1 (lasM t loc n false) s (pc : Int) (loc : Int) wc HP.out (Nat.le_refl _) (by omega) (by omega) HLVc.out)
              clear HRl HLV
              go_wp2_with fail
              refine HHA.out.mono ?_
              rintro e w14 ⟨n9, hn3, hn4, hD9, hu9, rfl⟩
              rw [las_has ht HSEEN.out pc (by unfold lasL; simp; omega), HWT.out]
              have HRd : Hid (RfAt w w14 b ⟨#[]⟩ ⟨#[73, 73, 73]⟩ ⟨#[]⟩ (.slice (some ⟨g, 0, none⟩) (2 * n + 1) c') (lasC t loc n false)) := HRc.out.keep hu9 (fun q hq => by
                simp at hq
                refine ⟨by omega, fun e => ?_⟩
                have := HKB.out q e
                omega)
              have HAd := Lib.hid (HAL.out.upd hu9 (.inr (by have := HAB.out; simp; exact ⟨this.1, this.2⟩)))
              have HLd := Lib.hid hD9
              have hz9 := hu9.size
              have HLO := Lib.hid (locals_any w11 w11.heap.size ib (lasP t loc n false) ss 0 n9 1 (lasM t loc n false) s (pc : Int) w14 HP.out (Nat.le_refl _) (by omega) (by omega) (.inr HLd.out))
              clear hD9 hu9 HHA HRc HAL HLVc
              go_wp2_with fail
              refine HLO.out.mono ?_
              rintro e w15 ⟨n10, wb, u10, hn5, hn6, hD10, hu10, rfl, ho10, hu10b⟩
              rw [las_loc ht hloc HSEEN.out pc (by unfold lasL; simp; omega), HWT.out] at ho10
              have HRe : Hid (RfAt w wb b ⟨#[]⟩ ⟨#[73, 73, 73]⟩ ⟨#[]⟩ (.slice (some ⟨g, 0, none⟩) (2 * n + 1) c') (lasC t loc n false)) := HRd.out.keep hu10 (fun q hq => by
                simp at hq
                refine ⟨by omega, fun e => ?_⟩
                have := HKB.out q e
                omega)
              have hal15 := (HAd.out.upd hu10 (.inr (by have := HAB.out; simp; exact ⟨this.1, this.2⟩))).upd hu10b (.inr (by simp))
              obtain ⟨b10, hi10, _⟩ := ho10.ints
              obtain ⟨up10, uc10, rfl⟩ := ho10.shape
              have HSI := Lib.hid (sints _ (.slice (some ⟨ab, 0, none⟩) 1 1) b10 _ _ _ w15 hi10 hal15 (by simp))
              have HLe := Lib.hid (show ∃ B lb kv F bk gk, LvD w11 w15 w11.heap.size ib (lasP t loc n false) ss 0 n10 1 (lasM t loc n false) s B lb kv F bk gk from by
                obtain ⟨B, lb, kv, F, bk, gk, hD⟩ := hD10
                exact ⟨B, lb, kv, F, bk, gk, hD.upd hu10b⟩)
              have HRf := Lib.hid (HRe.out.upd hu10b)
              have hz10 := hu10.size
              have hz10b := hu10b.size
              clear hD10 hu10 hu10b ho10 hal15 hi10 HLO HRd HAd HLd HRe
              simp only [if_true, List.length_cons, List.length_nil] at HSI ⊢
              go_wp2_with fail
              refine HSI.out.mono ?_
              rintro e w16 ⟨rfl, hu16⟩
              have HRg := Lib.hid (HRf.out.upd hu16)
              have HLg := Lib.hid (show ∃ B lb kv F bk gk, LvD w11 w16 w11.heap.size ib (lasP t loc n false) ss 0 n10 1 (lasM t loc n false) s B lb kv F bk gk from by
                obtain ⟨B, lb, kv, F, bk, gk, hD⟩ := HLe.out
                exact ⟨B, lb, kv, F, bk, gk, hD.upd hu16⟩)
              have hz16 := hu16.size
              have HLE16 : Hid (w11.heap.size + 1 ≤ w16.heap.size) := by have := HLE.out; show _ ≤ _; omega
              clear HRf HLe HSI hu16
              go_wp2_with fail
              go_roundw
              case rel => exact ⟨pc + 1, n10, by omega, by go_num, by omega, by omega, HRg.out, .inr HLg.out, HLE16.out⟩
              case measure => simp [intOf]; omega
            · as_aux_lemma =>
              have g1 : decide ((pc : Int) ≤ 2 * (t : Int)) = false := decide_eq_false (by omega)
              have g2 : decide (pc ≤ 2 * t) = false := decide_eq_false hwa
              have HWT : Hid (lasW t n false pc = false) := by
                show _ = _
                unfold lasW lasL
                simp
                omega
              go_upto_region 30 with fail
              have HAL : Hid (IntsV wl (.slice none 0 0) 0 []) := ⟨.inl ⟨rfl, rfl⟩, by simp⟩
              obtain ⟨wc, hwc⟩ : ∃ wc, wc = wl := ⟨_, rfl⟩
              rw [← hwc]
              have HRc := HRl
              have HLVc := HLV
              rw [← hwc] at HRc HLVc HAL
              have hwcs : wl.heap.size ≤ wc.heap.size := by rw [hwc]; exact Nat.le_refl _
              clear hwc
              have HHA := Lib.hid (lhas_any w11 w11.heap.size ib (lasP t loc n false) ss 0 nn 1 (lasM t loc n false) s (pc : Int) (loc : Int) wc HP.out (Nat.le_refl _) (by omega) (by omega) HLVc.out)
              clear HRl HLV
              go_wp2_with fail
              refine HHA.out.mono ?_
              rintro e w14 ⟨n9, hn3, hn4, hD9, hu9, rfl⟩
              rw [las_has ht HSEEN.out pc (by unfold lasL; simp; omega), HWT.out]
              have HRd : Hid (RfAt w w14 b ⟨#[]⟩ ⟨#[73, 73, 73]⟩ ⟨#[]⟩ (.slice (some ⟨g, 0, none⟩) (2 * n + 1) c') (lasC t loc n false)) := HRc.out.keep hu9 (fun q hq => by
                simp at hq
                refine ⟨by omega, fun e => ?_⟩
                have := HKB.out q e
                omega)
              have HAd := Lib.hid (HAL.out.upd hu9 (.inl rfl))
              have HLd := Lib.hid hD9
              have hz9 := hu9.size
              have HLO := Lib.hid (locals_any w11 w11.heap.size ib (lasP t loc n false) ss 0 n9 1 (lasM t loc n false) s (pc : Int) w14 HP.out (Nat.le_refl _) (by omega) (by omega) (.inr HLd.out))
              clear hD9 hu9 HHA HRc HAL HLVc
              go_wp2_with fail
              refine HLO.out.mono ?_
              rintro e w15 ⟨n10, wb, u10, hn5, hn6, hD10, hu10, rfl, ho10, hu10b⟩
              rw [las_loc ht hloc HSEEN.out pc (by unfold lasL; simp; omega), HWT.out] at ho10
              have HRe : Hid (RfAt w wb b ⟨#[]⟩ ⟨#[73, 73, 73]⟩ ⟨#[]⟩ (.slice (some ⟨g, 0, none⟩) (2 * n + 1) c') (lasC t loc n false)) := HRd.out.keep hu10 (fun q hq => by
                simp at hq
                refine ⟨by omega, fun e => ?_⟩
                have := HKB.out q e
                omega)
              have hal15 := (HAd.out.upd hu10 (.inl rfl)).upd hu10b (.inl rfl)
              obtain ⟨b10, hi10, _⟩ := ho10.ints
              obtain ⟨up10, uc10, rfl⟩ := ho10.shape
              have HSI := Lib.hid (sints _ (.slice none 0 0) b10 _ _ _ w15 hi10 hal15 (by simp))
              have HLe := Lib.hid (show ∃ B lb kv F bk gk, LvD w11 w15 w11.heap.size ib (lasP t loc n false) ss 0 n10 1 (lasM t loc n false) s B lb kv F bk gk from by
                obtain ⟨B, lb, kv, F, bk, gk, hD⟩ := hD10
                exact ⟨B, lb, kv, F, bk, gk, hD.upd hu10b⟩)
              have HRf := Lib.hid (HRe.out.upd hu10b)
              have hz10 := hu10.size
              have hz10b := hu10b.size
              clear hD10 hu10 hu10b ho10 hal15 hi10 HLO HRd HAd HLd HRe
              simp only [Bool.false_eq_true, if_false, List.length_nil] at HSI ⊢
              go_wp2_with fail
              refine HSI.out.mono ?_
              rintro e w16 ⟨rfl, hu16⟩
              have HRg := Lib.hid (HRf.out.upd hu16)
              have HLg := Lib.hid (show ∃ B lb kv F bk gk, LvD w11 w16 w11.heap.size ib (lasP t loc n false) ss 0 n10 1 (lasM t loc n false) s B lb kv F bk gk from by
                obtain ⟨B, lb, kv, F, bk, gk, hD⟩ := HLe.out
                exact ⟨B, lb, kv, F, bk, gk, hD.upd hu16⟩)
              have hz16 := hu16.size
              have HLE16 : Hid (w11.heap.size + 1 ≤ w16.heap.size) := by have := HLE.out; show _ ≤ _; omega
              clear HRf HLe HSI hu16
              go_wp2_with fail
              go_roundw
              case rel => exact ⟨pc + 1, n10, by omega, by go_num, by omega, by omega, HRg.out, .inr HLg.out, HLE16.out⟩
              case measure => simp [intOf]; omega
          · as_aux_lemma =>
              obtain rfl : pc = 2 * n + 1 := by omega
              have HLO := Lib.hid (locals_any w11 w11.heap.size ib (lasP t loc n false) ss 0 nn 1 (lasM t loc n false) s (-1) wl HP.out (Nat.le_refl _) (by omega) (by omega) HLV.out)
              have HPA := Lib.hid (las_past (t := t) (loc := loc) (n := n) (lp := false) (s := s))
              go_wp2_with fail
              refine HLO.out.mono ?_
              rintro e w15 ⟨n10, wb, u10, hn5, hn6, hD10, hu10, rfl, ho10, hu10b⟩
              rw [HPA.out.1] at ho10
              obtain ⟨up10, uc10, rfl⟩ := ho10.shape
              have HRe : Hid (RfAt w wb b ⟨#[]⟩ ⟨#[73, 73, 73]⟩ ⟨#[]⟩ (.slice (some ⟨g, 0, none⟩) (2 * n + 1) c') (lasC t loc n false)) := HRl.out.keep hu10 (fun q hq => by
                simp at hq
                refine ⟨by omega, fun e => ?_⟩
                have := HKB.out q e
                omega)
              have HRf := Lib.hid (HRe.out.upd hu10b)
              have HLe := Lib.hid (show ∃ B lb kv F bk gk, LvD w11 w15 w11.heap.size ib (lasP t loc n false) ss 0 n10 1 (lasM t loc n false) s B lb kv F bk gk from by
                obtain ⟨B, lb, kv, F, bk, gk, hD⟩ := hD10
                exact ⟨B, lb, kv, F, bk, gk, hD.upd hu10b⟩)
              have m3 := HRf.out.cells.2.2.2
              have HLO2 := Lib.hid (locals_any w11 w11.heap.size ib (lasP t loc n false) ss 0 n10 1 (lasM t loc n false) s ((2 * n + 1 : Nat) : Int) w15 HP.out (Nat.le_refl _) (by omega) (by omega) (.inr HLe.out))
              clear hD10 hu10 hu10b ho10 HRe HLO HRl HLV
              go_wp2_with fail
              refine HLO2.out.mono ?_
              rintro e w17 ⟨n11, wd, u11, hn7, hn8, _, hu17, rfl, ho17, hu17b⟩
              have hpast : locG (lasM t loc n false) s ((2 * n + 1 : Nat) : Int) = [] := HPA.out.2
              rw [hpast] at ho17
              obtain ⟨up17, uc17, rfl⟩ := ho17.shape
              have HUE : Hid (Upd [] w w17) := ((HRf.out.u).trans' hu17 (fun q hq hl => by have := HR0.out; simp at hq; omega)).trans hu17b
              clear hu17 hu17b ho17 HRf HLe HLO2 hpast
              go_wp2_with fail
              go_ret
              exact ⟨rfl, HUE.out⟩
      | true =>
        obtain ⟨kp, kc, hkv⟩ := HR.out.c.shape
        have hkl : (lastP t (loc : Int) n).length = 2 * n := HLEN.out
        rw [hkl] at hkv
        subst hkv
        have HKL := Lib.hid hkl
        clear hkl
        have b3 := HR.out.cells.2.2.2
        have hz3 := froz_of HR.out.m 3
        go_wp2_with (at_builtin; refine stop_here ?_)
        refine Hid.mk ?_
        have hup := (Upd.refl [] wo).alloc (.cells #[.int .i64 34, .int .i64 0, .int .i64 0, .int .i64 0, .int .i64 23, .int .i64 0, .int .i64 0, .int .i64 0] 24)
        have hrow : (wo.alloc (.cells #[.int .i64 34, .int .i64 0, .int .i64 0, .int .i64 0, .int .i64 23, .int .i64 0, .int .i64 0, .int .i64 0] 24)).ownsRow (b + 1) 24 4 (.slice kp (2 * n) kc) (2 * n) (xcells (lastP t (loc : Int) n)) := by
          have h9 := HR.out.c.upd hup
          unfold OwnX at h9
          rwa [HKL.out] at h9
        have hsz := lt_of_heap HR.out.m
        refine (wpList_append_src rfl _ _ 25 rfl (b + 1) 24 i0 _ 4 32 Tryz.underlying25 HI.out HZ0.out HZ1.out HZ2.out rfl (by decide) _ _ _ rfl hrow _ 2 (xcells [⟨34, 0, 0, 0⟩, ⟨23, 0, 0, 0⟩]) rfl (.inr ⟨_, _, rfl, fun jj u hu => by
          rw [Addr.add_lit, Nat.zero_add, cell_of (heap_alloc_new wo _)]
          show ((xcells [⟨34, 0, 0, 0⟩, ⟨23, 0, 0, 0⟩]).toArray)[jj]? = some u
          rw [List.getElem?_toArray]
          exact hu⟩) rfl (xcells_one _) (by unfold maxLen; omega) (by omega) (by simp; omega) ?_)
        intro v' w7 hown hgr _
        obtain ⟨⟨g, c', rfl⟩, hb7, hz7, hu7, hub, hrf⟩ := (HR.out.upd hup).push (ys := [⟨34, 0, 0, 0⟩, ⟨23, 0, 0, 0⟩]) (n := 2 * n + 2) (by rw [HKL.out]; rfl) (by omega) hown hgr
        have HR7 := Lib.hid hrf
        clear hown hgr hrow hsz hup hu7 hub hrf b3 hz3 HR HKL
        go_upto_region 15 with fail
        clear hb7 hz7
        have HR := HR7
        have HLEN : Hid ((lastP t (loc : Int) n ++ [(⟨34, 0, 0, 0⟩ : Ins), ⟨23, 0, 0, 0⟩]).length = 2 * n + 2) := by
          show _ = _
          rw [List.length_append, lastP_len]
          rfl
        clear HR7
        generalize w7.setCell ⟨b, 3, none⟩ (.slice (some ⟨g, 0, none⟩) (2 * n + 2) c') = wo2 at HR ⊢
        obtain ⟨kp, kc, hkv⟩ : ∃ kp kc, Value.slice (some ⟨g, 0, none⟩) (2 * n + 2) c' = .slice kp (2 * n + 2) kc := ⟨_, _, rfl⟩
        have hkl : (lastP t (loc : Int) n ++ [(⟨34, 0, 0, 0⟩ : Ins), ⟨23, 0, 0, 0⟩]).length = 2 * n + 2 := HLEN.out
        rw [hkv] at HR ⊢
        clear hkv
        have HKL := Lib.hid hkl
        clear hkl
        have b3 := HR.out.cells.2.2.2
        have hz3 := froz_of HR.out.m 3
        go_wp2_with (at_builtin; refine stop_here ?_)
        refine Hid.mk ?_
        have hup := (Upd.refl [] wo2).alloc (.cells #[.int .i64 33, .int .i64 0, .int .i64 0, .int .i64 0] 24)
        have hrow : (wo2.alloc (.cells #[.int .i64 33, .int .i64 0, .int .i64 0, .int .i64 0] 24)).ownsRow (b + 1) 24 4 (.slice kp (2 * n + 2) kc) (2 * n + 2) (xcells (lastP t (loc : Int) n ++ [(⟨34, 0, 0, 0⟩ : Ins), ⟨23, 0, 0, 0⟩])) := by
          have h9 := HR.out.c.upd hup
          unfold OwnX at h9
          rwa [HKL.out] at h9
        have hsz := lt_of_heap HR.out.m
        refine (wpList_append_src rfl _ _ 25 rfl (b + 1) 24 i0 _ 4 32 Tryz.underlying25 HI.out HZ0.out HZ1.out HZ2.out rfl (by decide) _ _ _ rfl hrow _ 1 (xcells [⟨33, 0, 0, 0⟩]) rfl (.inr ⟨_, _, rfl, fun jj u hu => by
          rw [Addr.add_lit, Nat.zero_add, cell_of (heap_alloc_new wo2 _)]
          show ((xcells [⟨33, 0, 0, 0⟩]).toArray)[jj]? = some u
          rw [List.getElem?_toArray]
          exact hu⟩) rfl (xcells_one _) (by unfold maxLen; omega) (by omega) (by simp; omega) ?_)
        intro v' w7 hown hgr _
        obtain ⟨⟨g, c', rfl⟩, hb7, hz7, hu7, hub, hrf⟩ := (HR.out.upd hup).push (ys := [⟨33, 0, 0, 0⟩]) (n := 2 * n + 3) (by rw [HKL.out]; rfl) (by omega) hown hgr
        have HR7 := Lib.hid hrf
        clear hown hgr hrow hsz hup hu7 hub hrf b3 hz3 HR HKL
        have HRN : Hid (RfAt w (w7.setCell ⟨b, 3, none⟩ (.slice (some ⟨g, 0, none⟩) (2 * n + 3) c')) b ⟨#[]⟩ ⟨#[73, 73, 73]⟩ ⟨#[]⟩ (.slice (some ⟨g, 0, none⟩) (2 * n + 3) c') (lasC t loc n true)) := by
          have h9 := HR7.out
          rw [List.append_assoc] at h9
          exact h9
        clear HR7 HLEN
        have hcl := lasC_len t loc n true
        have hcd := HRN.out.c.code (fun q hq => las_bd t loc n true hloc q hq)
        go_upto_region 16 with fail
        generalize w7.setCell ⟨b, 3, none⟩ (.slice (some ⟨g, 0, none⟩) (2 * n + 3) c') = w8 at HRN hcd ⊢
        have hC1 := code_lit w8 r8.code (by decide) (fun i hi => by
          obtain rfl : i = 0 := by have h : r8.code.length = 1 := rfl; omega
          exact bd_tiny (by decide))
        have hA9 := (Upd.refl [] w8).alloc (.cells (xcells r8.code).toArray 24)
        have hcd9 := hcd.upd hA9
        have z9 : (w8.alloc (.cells (xcells r8.code).toArray 24)).heap.size = w8.heap.size + 1 := by simp
        generalize hw9 : w8.alloc (.cells (xcells r8.code).toArray 24) = w9 at hA9 hC1 hcd9 z9
        have hM := meths_lit w9 [r8, lasM t loc n true] [.slice (some ⟨w8.heap.size, 0, none⟩) 1 1, .slice (some ⟨g, 0, none⟩) (2 * n + 3) c'] rfl (by simp) (fun i hi => by
          have : i = 0 ∨ i = 1 := by have h : [r8, lasM t loc n true].length = 2 := rfl; omega
          rcases this with rfl | rfl
          · exact ⟨by show 0 ≤ maxLen; decide, by show 0 ≤ maxLen; decide, by show 0 ≤ maxLen; decide⟩
          · exact ⟨by show 0 ≤ maxLen; decide, by show 3 ≤ maxLen; decide, by show 0 ≤ maxLen; decide⟩) (fun i hi => by
          have : i = 0 ∨ i = 1 := by have h : [r8, lasM t loc n true].length = 2 := rfl; omega
          rcases this with rfl | rfl
          · exact hC1
          · exact hcd9)
        have hA10 := hA9.alloc (.cells (mcells [r8, lasM t loc n true] [.slice (some ⟨w8.heap.size, 0, none⟩) 1 1, .slice (some ⟨g, 0, none⟩) (2 * n + 3) c']).toArray 27)
        have z10 : (w9.alloc (.cells (mcells [r8, lasM t loc n true] [.slice (some ⟨w8.heap.size, 0, none⟩) 1 1, .slice (some ⟨g, 0, none⟩) (2 * n + 3) c']).toArray 27)).heap.size = w8.heap.size + 1 + 1 := by simp [z9]
        generalize hw10 : w9.alloc (.cells (mcells [r8, lasM t loc n true] [.slice (some ⟨w8.heap.size, 0, none⟩) 1 1, .slice (some ⟨g, 0, none⟩) (2 * n + 3) c']).toArray 27) = w10 at hA10 hM z10
        rw [z9] at hM
        have hA12 := hA10.alloc (.cells #[.slice none 0 0, .slice (some ⟨w8.heap.size + 1, 0, none⟩) 2 2] 36)
        have hB12 := heap_alloc_new w10 (.cells #[.slice none 0 0, .slice (some ⟨w8.heap.size + 1, 0, none⟩) 2 2] 36)
        rw [z10] at hB12
        have hM := hM.upd ((Upd.refl [] w10).alloc (.cells #[.slice none 0 0, .slice (some ⟨w8.heap.size + 1, 0, none⟩) 2 2] 36))
        generalize hw12 : w10.alloc (.cells #[.slice none 0 0, .slice (some ⟨w8.heap.size + 1, 0, none⟩) 2 2] 36) = wp at hA12 hB12 hM
        have hW : wp = ((w8.alloc (.cells #[.int .i64 33, .int .i64 0, .int .i64 0, .int .i64 0] 24)).alloc (.cells #[.string ⟨#[]⟩, .string ⟨#[]⟩, .string ⟨#[]⟩, .slice (some ⟨w8.heap.size, 0, none⟩) 1 1, .string ⟨#[]⟩, .string ⟨#[73, 73, 73]⟩, .string ⟨#[]⟩, .slice (some ⟨g, 0, none⟩) (2 * n + 3) c'] 27)).alloc (.cells #[.slice none 0 0, .slice (some ⟨w8.heap.size + 1, 0, none⟩) 2 2] 36) := by
          rw [← hw12, ← hw10, ← hw9]
          rfl
        have HW := Lib.hid hW
        obtain ⟨m0, m1, m2, m3⟩ := HRN.out.cells
        have n0 := hA9.cell m0 (by simp)
        have n1 := hA9.cell m1 (by simp)
        have n2 := hA9.cell m2 (by simp)
        have n3 := hA9.cell m3 (by simp)
        rw [← hw9] at n0 n1 n2 n3
        have n0 : (w8.alloc (.cells #[.int .i64 33, .int .i64 0, .int .i64 0, .int .i64 0] 24)).cell? ⟨b, 0, none⟩ = some (.string ⟨#[]⟩) := n0
        have n1 : (w8.alloc (.cells #[.int .i64 33, .int .i64 0, .int .i64 0, .int .i64 0] 24)).cell? ⟨b, 1, none⟩ = some (.string ⟨#[73, 73, 73]⟩) := n1
        have n2 : (w8.alloc (.cells #[.int .i64 33, .int .i64 0, .int .i64 0, .int .i64 0] 24)).cell? ⟨b, 2, none⟩ = some (.string ⟨#[]⟩) := n2
        have n3 : (w8.alloc (.cells #[.int .i64 33, .int .i64 0, .int .i64 0, .int .i64 0] 24)).cell? ⟨b, 3, none⟩ = some (.slice (some ⟨g, 0, none⟩) (2 * n + 3) c') := n3
        have HR10 := Lib.hid (HRN.out.upd hA12)
        have HS10 := Lib.hid (HS.out.upd HR10.out.u)
        have HM10 := Lib.hid hM
        have HB12 := Lib.hid hB12
        clear hcd hC1 hA9 hcd9 z9 hw9 hM hA10 hw10 hW HRN m0 m1 m2 m3 hA12 hB12 hw12 z10
        go_upto_region 17 with fail
        rw [← HW.out]
        have c0 : wp.cell? ⟨w8.heap.size + 1 + 1, 0, none⟩ = some (.slice none 0 0) := by rw [cell_of HB12.out]; rfl
        have c1 : wp.cell? ⟨w8.heap.size + 1 + 1, 1, none⟩ = some (.slice (some ⟨w8.heap.size + 1, 0, none⟩) 2 2) := by rw [cell_of HB12.out]; rfl
        have HOF := Lib.hid (ofV_any (lasP t loc n true) (.slice none 0 0) (.slice (some ⟨w8.heap.size + 1, 0, none⟩) 2 2) E wp HS10.out (class_nil _) HM10.out)
        clear n0 n1 n2 n3 HW HM10 HB12
        go_wp2_with fail
        refine HOF.out.mono ?_
        rintro e w11 ⟨v1, rfl, hend⟩
        obtain ⟨ib, ss, hsl, hlk, rfl, hinfo, hib, hu11⟩ := hend.good (las_ok t loc n true hloc (by omega)) (las_looks t loc n true hloc)
        have HI5 := Lib.hid (InfoK.start hinfo)
        have HT11 := Lib.hid (HT.out.upd ((HR10.out.u).trans hu11) (by simp))
        have HR11 := Lib.hid (HR10.out.upd hu11)
        have hL1 : lookM (lasP t loc n true) (lasM t loc n true) = .ok (ss.getD 1 default) := hlk 1 (by show 1 < 2; omega)
        have HP : Hid (LvP (lasP t loc n true) ss 1 (lasM t loc n true) (ss.getD 1 default)) := ⟨hsl, by show 1 < 2; omega, las_ok t loc n true hloc (by omega), hlk, rfl, rfl⟩
        have hseen : ∀ i, i ≤ lasL n true → seenF (ss.getD 1 default) i = true := by
          obtain ⟨s2, h1, h2⟩ := las_look t loc n true hloc
          rw [hL1] at h1
          injection h1 with h1
          rw [h1]
          exact h2
        generalize hsd : ss.getD 1 default = s at hL1 HP hseen
        have HSEEN := Lib.hid hseen
        have hibs : ib < w11.heap.size := HI5.out.lt
        have hblt := lt_of_heap HR10.out.m
        have hibp : wp.heap.size ≤ ib := hib
        have HKB := Lib.hid (show ∀ k, (Value.slice (some ⟨g, 0, none⟩) (2 * n + 3) c').ownBlock = some k → k < wp.heap.size from fun k hk => (HR10.out.c.lt k hk).2)
        clear hend hinfo hib hlk hsl hL1 HOF hsd hseen hu11 c0 c1
        go_wp2_with fail
        refine (live_of ib 1 w11).mono ?_
        rintro e w12 ⟨rfl, hw12⟩
        have hb12 := heap_alloc_new w11 (.cells (mapCells ib 1 0 0 nilM (.slice none 0 0) (.slice none 0 0)) 147)
        have hu12 := (Upd.refl [] w11).alloc (.cells (mapCells ib 1 0 0 nilM (.slice none 0 0) (.slice none 0 0)) 147)
        have hz12 : (w11.alloc (.cells (mapCells ib 1 0 0 nilM (.slice none 0 0) (.slice none 0 0)) 147)).heap.size = w11.heap.size + 1 := by simp
        rw [← hw12] at hb12 hu12 hz12
        have HNEW : Hid (LvNew w11 w12 w11.heap.size ib (lasP t loc n true) ss 0 0 1) := ⟨hb12, HI5.out.keep hu12 (by simp), HT11.out.upd hu12 (by simp)⟩
        have HR12 := Lib.hid (HR11.out.upd hu12)
        have HLE12 : Hid (w11.heap.size + 1 ≤ w12.heap.size) := Nat.le_of_eq hz12.symm
        clear hb12 hu12 hw12 hz12 HR10 HR11 HS10
        go_wp2_with fail
        go_loopw [17, 18, 19] (fun iv _ _ wr => ∃ (pc : Nat) (nn : Int), pc ≤ 2 * n + 3 ∧ iv = .int .i64 pc ∧ 0 ≤ nn ∧ nn ≤ 240 * pc ∧ Hid (RfAt w wr b ⟨#[]⟩ ⟨#[73, 73, 73]⟩ ⟨#[]⟩ (.slice (some ⟨g, 0, none⟩) (2 * n + 3) c') (lasC t loc n true)) ∧ Hid (LvNew w11 wr w11.heap.size ib (lasP t loc n true) ss 0 nn 1 ∨ ∃ B lb kv F bk gk, LvD w11 wr w11.heap.size ib (lasP t loc n true) ss 0 nn 1 (lasM t loc n true) s B lb kv F bk gk) ∧ Hid (w11.heap.size + 1 ≤ wr.heap.size)) (fun iv _ _ _ => 2 * n + 3 - (intOf iv).toNat)
        case atStart => exact ⟨0, 0, by omega, rfl, by omega, by omega, HR12.out, .inl HNEW.out, HLE12.out⟩
        case round =>
          obtain ⟨pc, nn, hpc, rfl, hnn0, hnn1, HRl, HLV, HLE⟩ := hrel
          obtain ⟨wl, rfl⟩ : ∃ wl : World, wl = wr := ⟨_, rfl⟩
          clear HR12 HNEW HLE12
          have m3 := HRl.out.cells.2.2.2
          have HAB0 : Hid (∀ ab, ab = wl.heap.size → ab ≠ w11.heap.size ∧ ab ≠ ib) := by
            intro ab hab
            have := HLE.out
            omega
          by_cases hlt : pc < 2 * n + 3
          · by_cases hwa : pc ≤ 2 * t
            · as_aux_lemma =>
              have g1 : decide ((pc : Int) ≤ 2 * (t : Int)) = true := decide_eq_true (by omega)
              have g2 : decide (pc ≤ 2 * t) = true := decide_eq_true hwa
              have HWT : Hid (lasW t n true pc = true) := by
                show _ = _
                unfold lasW lasL
                simp
                omega
              go_upto_region 30 with fail
              have hal := own_int wl [(loc : Int)]
              have hua := (Upd.refl [] wl).alloc (.cells (icells [(loc : Int)]) 3)
              have HAL : Hid (IntsV (wl.alloc (.cells #[.int .i64 loc] 3)) (.slice (some ⟨wl.heap.size, 0, none⟩) 1 1) wl.heap.size [(loc : Int)]) := hal
              have hua : Upd [] wl (wl.alloc (.cells #[.int .i64 loc] 3)) := hua
              have HRc := Lib.hid (HRl.out.upd hua)
              have HLVc : Hid (LvNew w11 (wl.alloc (.cells #[.int .i64 loc] 3)) w11.heap.size ib (lasP t loc n true) ss 0 nn 1 ∨ ∃ B lb kv F bk gk, LvD w11 (wl.alloc (.cells #[.int .i64 loc] 3)) w11.heap.size ib (lasP t loc n true) ss 0 nn 1 (lasM t loc n true) s B lb kv F bk gk) := by
                rcases HLV.out with h | ⟨B, lb, kv, F, bk, gk, h⟩
                · exact .inl (h.upd hua)
                · exact .inr ⟨B, lb, kv, F, bk, gk, h.upd hua⟩
              have hgt : w11.heap.size ≤ wl.heap.size := by have := HLE.out; omega
              have hwcs := hua.size
              clear hal hua
              generalize wl.alloc (.cells #[.int .i64 loc] 3) = wc at HAL HRc HLVc hwcs ⊢
              obtain ⟨ab, hab⟩ : ∃ ab, ab = wl.heap.size := ⟨_, rfl⟩
              rw [← hab] at HAL ⊢
              have hab2 : w11.heap.size ≤ ab := by omega
              have HAB : Hid (ab ≠ w11.heap.size ∧ ab ≠ ib) := HAB0.out ab hab
              clear hab
              have HHA := Lib.hid (lhas_any w11 w11.heap.size ib (lasP t loc n true) ss 0 nn 1 (lasM t loc n true) s (pc : Int) (loc : Int) wc HP.out (Nat.le_refl _) (by omega) (by omega) HLVc.out)
              clear HRl HLV
              go_wp2_with fail
              refine HHA.out.mono ?_
              rintro e w14 ⟨n9, hn3, hn4, hD9, hu9, rfl⟩
              rw [las_has ht HSEEN.out pc (by unfold lasL; simp; omega), HWT.out]
              have HRd : Hid (RfAt w w14 b ⟨#[]⟩ ⟨#[73, 73, 73]⟩ ⟨#[]⟩ (.slice (some ⟨g, 0, none⟩) (2 * n + 3) c') (lasC t loc n true)) := HRc.out.keep hu9 (fun q hq => by
                simp at hq
                refine ⟨by omega, fun e => ?_⟩
                have := HKB.out q e
                omega)
              have HAd := Lib.hid (HAL.out.upd hu9 (.inr (by have := HAB.out; simp; exact ⟨this.1, this.2⟩)))
              have HLd := Lib.hid hD9
              have hz9 := hu9.size
              have HLO := Lib.hid (locals_any w11 w11.heap.size ib (lasP t loc n true) ss 0 n9 1 (lasM t loc n true) s (pc : Int) w14 HP.out (Nat.le_refl _) (by omega) (by omega) (.inr HLd.out))
              clear hD9 hu9 HHA HRc HAL HLVc
              go_wp2_with fail
              refine HLO.out.mono ?_
              rintro e w15 ⟨n10, wb, u10, hn5, hn6, hD10, hu10, rfl, ho10, hu10b⟩
              rw [las_loc ht hloc HSEEN.out pc (by unfold lasL; simp; omega), HWT.out] at ho10
              have HRe : Hid (RfAt w wb b ⟨#[]⟩ ⟨#[73, 73, 73]⟩ ⟨#[]⟩ (.slice (some ⟨g, 0, none⟩) (2 * n + 3) c') (lasC t loc n true)) := HRd.out.keep hu10 (fun q hq => by
                simp at hq
                refine ⟨by omega, fun e => ?_⟩
                have := HKB.out q e
                omega)
              have hal15 := (HAd.out.upd hu10 (.inr (by have := HAB.out; simp; exact ⟨this.1, this.2⟩))).upd hu10b (.inr (by simp))
              obtain ⟨b10, hi10, _⟩ := ho10.ints
              obtain ⟨up10, uc10, rfl⟩ := ho10.shape
              have HSI := Lib.hid (sints _ (.slice (some ⟨ab, 0, none⟩) 1 1) b10 _ _ _ w15 hi10 hal15 (by simp))
              have HLe := Lib.hid (show ∃ B lb kv F bk gk, LvD w11 w15 w11.heap.size ib (lasP t loc n true) ss 0 n10 1 (lasM t loc n true) s B lb kv F bk gk from by
                obtain ⟨B, lb, kv, F, bk, gk, hD⟩ := hD10
                exact ⟨B, lb, kv, F, bk, gk, hD.upd hu10b⟩)
              have HRf := Lib.hid (HRe.out.upd hu10b)
              have hz10 := hu10.size
              have hz10b := hu10b.size
              clear hD10 hu10 hu10b ho10 hal15 hi10 HLO HRd HAd HLd HRe
              simp only [if_true, List.length_cons, List.length_nil] at HSI ⊢
              go_wp2_with fail
              refine HSI.out.mono ?_
              rintro e w16 ⟨rfl, hu16⟩
              have HRg := Lib.hid (HRf.out.upd hu16)
              have HLg := Lib.hid (show ∃ B lb kv F bk gk, LvD w11 w16 w11.heap.size ib (lasP t loc n true) ss 0 n10 1 (lasM t loc n true) s B lb kv F bk gk from by
                obtain ⟨B, lb, kv, F, bk, gk, hD⟩ := HLe.out
                exact ⟨B, lb, kv, F, bk, gk, hD.upd hu16⟩)
              have hz16 := hu16.size
              have HLE16 : Hid (w11.heap.size + 1 ≤ w16.heap.size) := by have := HLE.out; show _ ≤ _; omega
              clear HRf HLe HSI hu16
              go_wp2_with fail
              go_roundw
              case rel => exact ⟨pc + 1, n10, by omega, by go_num, by omega, by omega, HRg.out, .inr HLg.out, HLE16.out⟩
              case measure => simp [intOf]; omega
            · as_aux_lemma =>
              by_cases hwb : pc < 2 * n + 2
              · have g1 : decide ((pc : Int) ≤ 2 * (t : Int)) = false := decide_eq_false (by omega)
                have g2 : decide (pc ≤ 2 * t) = false := decide_eq_false hwa
                have g3 : decide ((pc : Int) < ((2 * n + 3 : Nat) : Int) - 1) = true := decide_eq_true (by omega)
                have g5 : ((2 * n + 3 : Nat) : Int) - 1 = ((2 * n + 2 : Nat) : Int) := by omega
                have g4 : decide (pc < 2 * n + 2) = true := decide_eq_true hwb
                have HWT : Hid (lasW t n true pc = true) := by
                  show _ = _
                  unfold lasW lasL
                  simp
                  omega
                go_upto_region 30 with fail
                have hal := own_int wl [(loc : Int)]
                have hua := (Upd.refl [] wl).alloc (.cells (icells [(loc : Int)]) 3)
                have HAL : Hid (IntsV (wl.alloc (.cells #[.int .i64 loc] 3)) (.slice (some ⟨wl.heap.size, 0, none⟩) 1 1) wl.heap.size [(loc : Int)]) := hal
                have hua : Upd [] wl (wl.alloc (.cells #[.int .i64 loc] 3)) := hua
                have HRc := Lib.hid (HRl.out.upd hua)
                have HLVc : Hid (LvNew w11 (wl.alloc (.cells #[.int .i64 loc] 3)) w11.heap.size ib (lasP t loc n true) ss 0 nn 1 ∨ ∃ B lb kv F bk gk, LvD w11 (wl.alloc (.cells #[.int .i64 loc] 3)) w11.heap.size ib (lasP t loc n true) ss 0 nn 1 (lasM t loc n true) s B lb kv F bk gk) := by
                  rcases HLV.out with h | ⟨B, lb, kv, F, bk, gk, h⟩
                  · exact .inl (h.upd hua)
                  · exact .inr ⟨B, lb, kv, F, bk, gk, h.upd hua⟩
                have hgt : w11.heap.size ≤ wl.heap.size := by have := HLE.out; omega
                have hwcs := hua.size
                clear hal hua
                generalize wl.alloc (.cells #[.int .i64 loc] 3) = wc at HAL HRc HLVc hwcs ⊢
                obtain ⟨ab, hab⟩ : ∃ ab, ab = wl.heap.size := ⟨_, rfl⟩
                rw [← hab] at HAL ⊢
                have hab2 : w11.heap.size ≤ ab := by omega
                have HAB : Hid (ab ≠ w11.heap.size ∧ ab ≠ ib) := HAB0.out ab hab
                clear hab
                have HHA := Lib.hid (lhas_any w11 w11.heap.size ib (lasP t loc n true) ss 0 nn 1 (lasM t loc n true) s (pc : Int) (loc : Int) wc HP.out (Nat.le_refl _) (by omega) (by omega) HLVc.out)
                clear HRl HLV
                go_wp2_with fail
                refine HHA.out.mono ?_
                rintro e w14 ⟨n9, hn3, hn4, hD9, hu9, rfl⟩
                rw [las_has ht HSEEN.out pc (by unfold lasL; simp; omega), HWT.out]
                have HRd : Hid (RfAt w w14 b ⟨#[]⟩ ⟨#[73, 73, 73]⟩ ⟨#[]⟩ (.slice (some ⟨g, 0, none⟩) (2 * n + 3) c') (lasC t loc n true)) := HRc.out.keep hu9 (fun q hq => by
                  simp at hq
                  refine ⟨by omega, fun e => ?_⟩
                  have := HKB.out q e
                  omega)
                have HAd := Lib.hid (HAL.out.upd hu9 (.inr (by have := HAB.out; simp; exact ⟨this.1, this.2⟩)))
                have HLd := Lib.hid hD9
                have hz9 := hu9.size
                have HLO := Lib.hid (locals_any w11 w11.heap.size ib (lasP t loc n true) ss 0 n9 1 (lasM t loc n true) s (pc : Int) w14 HP.out (Nat.le_refl _) (by omega) (by omega) (.inr HLd.out))
                clear hD9 hu9 HHA HRc HAL HLVc
                go_wp2_with fail
                refine HLO.out.mono ?_
                rintro e w15 ⟨n10, wb, u10, hn5, hn6, hD10, hu10, rfl, ho10, hu10b⟩
                rw [las_loc ht hloc HSEEN.out pc (by unfold lasL; simp; omega), HWT.out] at ho10
                have HRe : Hid (RfAt w wb b ⟨#[]⟩ ⟨#[73, 73, 73]⟩ ⟨#[]⟩ (.slice (some ⟨g, 0, none⟩) (2 * n + 3) c') (lasC t loc n true)) := HRd.out.keep hu10 (fun q hq => by
                  simp at hq
                  refine ⟨by omega, fun e => ?_⟩
                  have := HKB.out q e
                  omega)
                have hal15 := (HAd.out.upd hu10 (.inr (by have := HAB.out; simp; exact ⟨this.1, this.2⟩))).upd hu10b (.inr (by simp))
                obtain ⟨b10, hi10, _⟩ := ho10.ints
                obtain ⟨up10, uc10, rfl⟩ := ho10.shape
                have HSI := Lib.hid (sints _ (.slice (some ⟨ab, 0, none⟩) 1 1) b10 _ _ _ w15 hi10 hal15 (by simp))
                have HLe := Lib.hid (show ∃ B lb kv F bk gk, LvD w11 w15 w11.heap.size ib (lasP t loc n true) ss 0 n10 1 (lasM t loc n true) s B lb kv F bk gk from by
                  obtain ⟨B, lb, kv, F, bk, gk, hD⟩ := hD10
                  exact ⟨B, lb, kv, F, bk, gk, hD.upd hu10b⟩)
                have HRf := Lib.hid (HRe.out.upd hu10b)
                have hz10 := hu10.size
                have hz10b := hu10b.size
                clear hD10 hu10 hu10b ho10 hal15 hi10 HLO HRd HAd HLd HRe
                simp only [if_true, List.length_cons, List.length_nil] at HSI ⊢
                go_wp2_with fail
                refine HSI.out.mono ?_
                rintro e w16 ⟨rfl, hu16⟩
                have HRg := Lib.hid (HRf.out.upd hu16)
                have HLg := Lib.hid (show ∃ B lb kv F bk gk, LvD w11 w16 w11.heap.size ib (lasP t loc n true) ss 0 n10 1 (lasM t loc n true) s B lb kv F bk gk from by
                  obtain ⟨B, lb, kv, F, bk, gk, hD⟩ := HLe.out
                  exact ⟨B, lb, kv, F, bk, gk, hD.upd hu16⟩)
                have hz16 := hu16.size
                have HLE16 : Hid (w11.heap.size + 1 ≤ w16.heap.size) := by have := HLE.out; show _ ≤ _; omega
                clear HRf HLe HSI hu16
                go_wp2_with fail
                go_roundw
                case rel => exact ⟨pc + 1, n10, by omega, by go_num, by omega, by omega, HRg.out, .inr HLg.out, HLE16.out⟩
                case measure => simp [intOf]; omega
              · have g1 : decide ((pc : Int) ≤ 2 * (t : Int)) = false := decide_eq_false (by omega)
                have g2 : decide (pc ≤ 2 * t) = false := decide_eq_false hwa
                have g3 : decide ((pc : Int) < ((2 * n + 3 : Nat) : Int) - 1) = false := decide_eq_false (by omega)
                have g5 : ((2 * n + 3 : Nat) : Int) - 1 = ((2 * n + 2 : Nat) : Int) := by omega
                have g4 : decide (pc < 2 * n + 2) = false := decide_eq_false hwb
                have HWT : Hid (lasW t n true pc = false) := by
                  show _ = _
                  unfold lasW lasL
                  simp
                  omega
                go_upto_region 30 with fail
                have HAL : Hid (IntsV wl (.slice none 0 0) 0 []) := ⟨.inl ⟨rfl, rfl⟩, by simp⟩
                obtain ⟨wc, hwc⟩ : ∃ wc, wc = wl := ⟨_, rfl⟩
                rw [← hwc]
                have HRc := HRl
                have HLVc := HLV
                rw [← hwc] at HRc HLVc HAL
                have hwcs : wl.heap.size ≤ wc.heap.size := by rw [hwc]; exact Nat.le_refl _
                clear hwc
                have HHA := Lib.hid (lhas_any w11 w11.heap.size ib (lasP t loc n true) ss 0 nn 1 (lasM t loc n true) s (pc : Int) (loc : Int) wc HP.out (Nat.le_refl _) (by omega) (by omega) HLVc.out)
                clear HRl HLV
                go_wp2_with fail
                refine HHA.out.mono ?_
                rintro e w14 ⟨n9, hn3, hn4, hD9, hu9, rfl⟩
                rw [las_has ht HSEEN.out pc (by unfold lasL; simp; omega), HWT.out]
                have HRd : Hid (RfAt w w14 b ⟨#[]⟩ ⟨#[73, 73, 73]⟩ ⟨#[]⟩ (.slice (some ⟨g, 0, none⟩) (2 * n + 3) c') (lasC t loc n true)) := HRc.out.keep hu9 (fun q hq => by
                  simp at hq
                  refine ⟨by omega, fun e => ?_⟩
                  have := HKB.out q e
                  omega)
                have HAd := Lib.hid (HAL.out.upd hu9 (.inl rfl))
                have HLd := Lib.hid hD9
                have hz9 := hu9.size
                have HLO := Lib.hid (locals_any w11 w11.heap.size ib (lasP t loc n true) ss 0 n9 1 (lasM t loc n true) s (pc : Int) w14 HP.out (Nat.le_refl _) (by omega) (by omega) (.inr HLd.out))
                clear hD9 hu9 HHA HRc HAL HLVc
                go_wp2_with fail
                refine HLO.out.mono ?_
                rintro e w15 ⟨n10, wb, u10, hn5, hn6, hD10, hu10, rfl, ho10, hu10b⟩
                rw [las_loc ht hloc HSEEN.out pc (by unfold lasL; simp; omega), HWT.out] at ho10
                have HRe : Hid (RfAt w wb b ⟨#[]⟩ ⟨#[73, 73, 73]⟩ ⟨#[]⟩ (.slice (some ⟨g, 0, none⟩) (2 * n + 3) c') (lasC t loc n true)) := HRd.out.keep hu10 (fun q hq => by
                  simp at hq
                  refine ⟨by omega, fun e => ?_⟩
                  have := HKB.out q e
                  omega)
                have hal15 := (HAd.out.upd hu10 (.inl rfl)).upd hu10b (.inl rfl)
                obtain ⟨b10, hi10, _⟩ := ho10.ints
                obtain ⟨up10, uc10, rfl⟩ := ho10.shape
                have HSI := Lib.hid (sints _ (.slice none 0 0) b10 _ _ _ w15 hi10 hal15 (by simp))
                have HLe := Lib.hid (show ∃ B lb kv F bk gk, LvD w11 w15 w11.heap.size ib (lasP t loc n true) ss 0 n10 1 (lasM t loc n true) s B lb kv F bk gk from by
                  obtain ⟨B, lb, kv, F, bk, gk, hD⟩ := hD10
                  exact ⟨B, lb, kv, F, bk, gk, hD.upd hu10b⟩)
                have HRf := Lib.hid (HRe.out.upd hu10b)
                have hz10 := hu10.size
                have hz10b := hu10b.size
                clear hD10 hu10 hu10b ho10 hal15 hi10 HLO HRd HAd HLd HRe
                simp only [Bool.false_eq_true, if_false, List.length_nil] at HSI ⊢
                go_wp2_with fail
                refine HSI.out.mono ?_
                rintro e w16 ⟨rfl, hu16⟩
                have HRg := Lib.hid (HRf.out.upd hu16)
                have HLg := Lib.hid (show ∃ B lb kv F bk gk, LvD w11 w16 w11.heap.size ib (lasP t loc n true) ss 0 n10 1 (lasM t loc n true) s B lb kv F bk gk from by
                  obtain ⟨B, lb, kv, F, bk, gk, hD⟩ := HLe.out
                  exact ⟨B, lb, kv, F, bk, gk, hD.upd hu16⟩)
                have hz16 := hu16.size
                have HLE16 : Hid (w11.heap.size + 1 ≤ w16.heap.size) := by have := HLE.out; show _ ≤ _; omega
                clear HRf HLe HSI hu16
                go_wp2_with fail
                go_roundw
                case rel => exact ⟨pc + 1, n10, by omega, by go_num, by omega, by omega, HRg.out, .inr HLg.out, HLE16.out⟩
                case measure => simp [intOf]; omega
          · as_aux_lemma =>
              obtain rfl : pc = 2 * n + 3 := by omega
              have HLO := Lib.hid (locals_any w11 w11.heap.size ib (lasP t loc n true) ss 0 nn 1 (lasM t loc n true) s (-1) wl HP.out (Nat.le_refl _) (by omega) (by omega) HLV.out)
              have HPA := Lib.hid (las_past (t := t) (loc := loc) (n := n) (lp := true) (s := s))
              go_wp2_with fail
              refine HLO.out.mono ?_
              rintro e w15 ⟨n10, wb, u10, hn5, hn6, hD10, hu10, rfl, ho10, hu10b⟩
              rw [HPA.out.1] at ho10
              obtain ⟨up10, uc10, rfl⟩ := ho10.shape
              have HRe : Hid (RfAt w wb b ⟨#[]⟩ ⟨#[73, 73, 73]⟩ ⟨#[]⟩ (.slice (some ⟨g, 0, none⟩) (2 * n + 3) c') (lasC t loc n true)) := HRl.out.keep hu10 (fun q hq => by
                simp at hq
                refine ⟨by omega, fun e => ?_⟩
                have := HKB.out q e
                omega)
              have HRf := Lib.hid (HRe.out.upd hu10b)
              have HLe := Lib.hid (show ∃ B lb kv F bk gk, LvD w11 w15 w11.heap.size ib (lasP t loc n true) ss 0 n10 1 (lasM t loc n true) s B lb kv F bk gk from by
                obtain ⟨B, lb, kv, F, bk, gk, hD⟩ := hD10
                exact ⟨B, lb, kv, F, bk, gk, hD.upd hu10b⟩)
              have m3 := HRf.out.cells.2.2.2
              have HLO2 := Lib.hid (locals_any w11 w11.heap.size ib (lasP t loc n true) ss 0 n10 1 (lasM t loc n true) s ((2 * n + 3 : Nat) : Int) w15 HP.out (Nat.le_refl _) (by omega) (by omega) (.inr HLe.out))
              clear hD10 hu10 hu10b ho10 HRe HLO HRl HLV
              go_wp2_with fail
              refine HLO2.out.mono ?_
              rintro e w17 ⟨n11, wd, u11, hn7, hn8, _, hu17, rfl, ho17, hu17b⟩
              have hpast : locG (lasM t loc n true) s ((2 * n + 3 : Nat) : Int) = [] := HPA.out.2
              rw [hpast] at ho17
              obtain ⟨up17, uc17, rfl⟩ := ho17.shape
              have HUE : Hid (Upd [] w w17) := ((HRf.out.u).trans' hu17 (fun q hq hl => by have := HR0.out; simp at hq; omega)).trans hu17b
              clear hu17 hu17b ho17 HRf HLe HLO2 hpast
              go_wp2_with fail
              go_ret
              exact ⟨rfl, HUE.out⟩
end Go.Proofs.YtpmfbhoochogoaaGreatDoor
