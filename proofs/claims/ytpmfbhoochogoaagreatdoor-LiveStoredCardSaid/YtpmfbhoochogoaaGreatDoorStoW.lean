/- LiveStored: the law's walk. -/
import Derived.Test.YtpmfbhoochogoaaGreatDoorStoL
import Derived.Test.YtpmfbhoochogoaaGreatDoorRfAt
import Derived.Test.YtpmfbhoochogoaaGreatDoorSorted2
import Derived.Test.YtpmfbhoochogoaaGreatDoorOpenB
import Derived.Test.YtpmfbhoochogoaaGreatDoorBools
import Derived.Test.YtpmfbhoochogoaaGreatDoorFrame
/-! LiveStored: the law's walk. -/
namespace Go.Proofs.YtpmfbhoochogoaaGreatDoor
open Go.RowKit

theorem and_3s (a : Int) : bits BinOp.and IntKind.i64 a 3 = a % 4 := and_mask a 2 3 (by omega) (by decide)
def pairU (u : Nat × Bool) : List Ins := if u.2 then [⟨1, 0, 0, 1⟩, ⟨4, (u.1 : Int), 0, 0⟩] else [⟨3, (u.1 : Int), 0, 0⟩, ⟨35, 0, 0, 0⟩]
def useP (us : List (Nat × Bool)) : List Ins := us.flatMap pairU
theorem useC_eq : ∀ us, useC us = useP us ++ [⟨33, 0, 0, 0⟩]
  | [] => rfl
  | (k, true) :: r => by
    show ⟨1, 0, 0, 1⟩ :: ⟨4, (k : Int), 0, 0⟩ :: useC r = _
    rw [useC_eq r]; rfl
  | (k, false) :: r => by
    show ⟨3, (k : Int), 0, 0⟩ :: ⟨35, 0, 0, 0⟩ :: useC r = _
    rw [useC_eq r]; rfl
theorem useP_snoc (us : List (Nat × Bool)) (u : Nat × Bool) : useP (us ++ [u]) = useP us ++ pairU u := by simp [useP]
theorem useP_len (us : List (Nat × Bool)) : (useP us).length = 2 * us.length := by
  have h := useC_len us
  rw [useC_eq, List.length_append] at h
  simp at h
  omega
def useOf (xs : List Int) (sts : List Bool) : List (Nat × Bool) := (List.range xs.length).map fun i => ((xs.getD i 0 % 4).toNat, sts.getD i false)
theorem useOf_len (xs : List Int) (sts : List Bool) : (useOf xs sts).length = xs.length := by simp [useOf]
theorem useOf_take (xs : List Int) (sts : List Bool) (i : Nat) (h : i < xs.length) : (useOf xs sts).take (i + 1) = (useOf xs sts).take i ++ [((xs.getD i 0 % 4).toNat, sts.getD i false)] := by
  rw [List.take_succ_eq_append_getElem (by rw [useOf_len]; exact h)]
  congr 1
  simp [useOf]
theorem useOf_low (xs : List Int) (sts : List Bool) : ∀ u ∈ useOf xs sts, u.1 < 4 := by
  intro u hu
  unfold useOf at hu
  rw [List.mem_map] at hu
  obtain ⟨i, _, rfl⟩ := hu
  have h1 := Int.emod_nonneg (xs.getD i 0) (show (4 : Int) ≠ 0 by omega)
  have h2 := Int.emod_lt_of_pos (xs.getD i 0) (show (0 : Int) < 4 by omega)
  show (xs.getD i 0 % 4).toNat < 4
  omega
def seenB (us : List (Nat × Bool)) : List Bool := [seenU us 0, seenU us 1, seenU us 2, seenU us 3]
theorem seenB_get (us : List (Nat × Bool)) {k : Nat} (hk : k < 4) : (seenB us).getD k false = seenU us k := by
  have : k = 0 ∨ k = 1 ∨ k = 2 ∨ k = 3 := by omega
  rcases this with rfl | rfl | rfl | rfl <;> rfl
theorem seenU_snoc (us : List (Nat × Bool)) (u : Nat × Bool) (k : Nat) : seenU (us ++ [u]) k = (seenU us k || decide (u.1 = k)) := by simp [seenU]
theorem seenB_set (us : List (Nat × Bool)) {k : Nat} (hk : k < 4) (b : Bool) : (seenB us).set k true = seenB (us ++ [(k, b)]) := by
  unfold seenB
  simp only [seenU_snoc]
  have : k = 0 ∨ k = 1 ∨ k = 2 ∨ k = 3 := by omega
  rcases this with rfl | rfl | rfl | rfl <;> simp

set_option maxRecDepth 100000 in
set_option maxHeartbeats 8000000 in
theorem stoW_any (E : Nat → Addr) (va vb : Value) (xs : List Int) (sts : List Bool) (w : World) (hS : SentAt w E) (hT : TzAt w) (ha : IntsAt w va xs) (hb : BoolsAt w vb sts) :
    Calls Tryz.prog 5 #[va, vb] w fun e w' => e = .returned (.bool true) ∧ Upd [] w w' := by
  obtain ⟨i0, hi, hz0, hz1, hz2⟩ := info_parts Tryz.infoInstr
  have HI := Lib.hid hi
  have HZ0 := Lib.hid hz0
  have HZ1 := Lib.hid hz1
  have HZ2 := Lib.hid hz2
  obtain ⟨j0, hj, hy0, hy1, hy2⟩ := info_parts Tryz.infoInt
  have HJ := Lib.hid hj
  have HY0 := Lib.hid hy0
  have HY1 := Lib.hid hy1
  have HY2 := Lib.hid hy2
  clear hi hz0 hz1 hz2 hj hy0 hy1 hy2
  have HS := Lib.hid hS
  have HT := Lib.hid hT
  obtain ⟨aa, ac, rfl, hal, ham, _, hax⟩ := ha
  obtain ⟨ba, bc, rfl, hbx⟩ := hb
  have HA := Lib.hid hax
  have HB := Lib.hid hbx
  clear hax hbx hS hT ham
  go_enter Tryz.func5, Tryz.ntmps5
  go_wp2_with fail
  refine (first8_any E w HS.out HT.out).mono ?_
  rintro e w1 ⟨rfl, hu1⟩
  have HU1 := Lib.hid hu1
  clear hu1
  by_cases hl1 : xs.length > 30
  · have d0 : decide ((xs.length : Int) > 30) = true := by simp; omega
    go_wp2_with fail
    go_ret
    exact ⟨rfl, HU1.out⟩
  have d0 : decide ((xs.length : Int) > 30) = false := by simp; omega
  have hM2 := heap_alloc_new w1 (.cells #[.string ⟨#[73, 73, 73, 73]⟩, .string ⟨#[]⟩, .string ⟨#[]⟩, .slice none 0 0] 27)
  have HU2 := Lib.hid (HU1.out.alloc (.cells #[.string ⟨#[73, 73, 73, 73]⟩, .string ⟨#[]⟩, .string ⟨#[]⟩, .slice none 0 0] 27))
  have hzb := HU1.out.size
  have HM2 := Lib.hid hM2
  clear hM2
  go_upto_region 5 with fail
  clear d0
  have hz2 : (w1.alloc (.cells #[.string ⟨#[73, 73, 73, 73]⟩, .string ⟨#[]⟩, .string ⟨#[]⟩, .slice none 0 0] 27)).heap.size = w1.heap.size + 1 := by simp
  have HZ2s := Lib.hid hz2
  clear hz2
  generalize w1.alloc (.cells #[.string ⟨#[73, 73, 73, 73]⟩, .string ⟨#[]⟩, .string ⟨#[]⟩, .slice none 0 0] 27) = w2 at HM2 HU2 HZ2s ⊢
  generalize w1.heap.size = b at HM2 HZ2s hzb ⊢
  have HR2 : Hid (RfAt w w2 b ⟨#[73, 73, 73, 73]⟩ ⟨#[]⟩ ⟨#[]⟩ (.slice none 0 0) []) := ⟨HM2.out, OwnX.nil _ _, HU2.out, hzb⟩
  obtain ⟨Z, hZ, hmk⟩ : ∃ Z : Array Value, Z = bcells [false, false, false, false] ∧ (Instr.makeSlice 79 (.int .i64 4) (.int .i64 4)).run Tryz.prog w2 = .ok (.slice (some ⟨w2.heap.size, 0, none⟩) 4 4) (w2.alloc (.cells Z 4)) := ⟨_, rfl, make_bools w2 4 (by omega)⟩
  have hb3 := heap_alloc_new w2 (.cells Z 4)
  have hu3 := (Upd.refl [] w2).alloc (.cells Z 4)
  have HR3 := Lib.hid (HR2.out.upd hu3)
  have HZe := Lib.hid hZ
  clear hZ
  go_upto_region 7 with fail
  rw [HZ2s.out] at hb3 ⊢
  clear hu3 hmk HR2 HM2 HU2 HU1
  generalize w2.alloc (.cells Z 4) = w3 at hb3 HR3 ⊢
  have HB3 : Hid (w3.heap[b + 1]? = some (.cells (bcells [false, false, false, false]) 4)) := by
    show _ = _
    rw [hb3, HZe.out]
  clear hb3 HZe
  clear HZ2s
  go_wp2_with fail
  go_loopw [7, 9] (fun v iv wr => ∃ (i : Nat) (kv : Value), i ≤ xs.length ∧ iv = .int .i64 i ∧ Hid (RfAt w wr b ⟨#[73, 73, 73, 73]⟩ ⟨#[]⟩ ⟨#[]⟩ kv (useP ((useOf xs sts).take i))) ∧ Hid (OwnI wr (b + 1) 3 v (firstU ((useOf xs sts).take i))) ∧ Hid (wr.heap[b + 1]? = some (.cells (bcells (seenB ((useOf xs sts).take i))) 4))) (fun _ iv _ => xs.length - (intOf iv).toNat)
  case atStart => exact ⟨0, _, by omega, rfl, HR3.out, OwnI.nil _ _ _, HB3.out⟩
  case round =>
    clear HR3 HB3
    obtain ⟨i, kv, hi, rfl, HR, HX, HBS⟩ := hrel
    obtain ⟨wo, rfl⟩ : ∃ wo : World, wo = wr := ⟨_, rfl⟩
    obtain ⟨vp, vc, hv⟩ := HX.out.shape
    generalize hL : (firstU ((useOf xs sts).take i)).length = L at hv
    subst hv
    have hLL : L ≤ 30 := by rw [← hL]; exact Nat.le_trans (firstU_len _) (by rw [List.length_take]; omega)
    have HL := Lib.hid hL
    clear hL
    obtain ⟨kp, kc, hkv⟩ := HR.out.c.shape
    have hkl : (useP ((useOf xs sts).take i)).length = 2 * i := by rw [useP_len, List.length_take, useOf_len]; omega
    rw [hkl] at hkv
    subst hkv
    have HKL := Lib.hid hkl
    clear hkl
    have b3 := HR.out.cells.2.2.2
    have hz3 := froz_of HR.out.m 3
    by_cases hlt : i < xs.length
    · have HTK := Lib.hid (useOf_take xs sts i hlt)
      obtain ⟨ab, ao, haa, hac⟩ : ∃ ab ao, aa = some ⟨ab, ao, none⟩ ∧ wo.cell? ⟨ab, ao + i, none⟩ = some (.int .i64 (xs.getD i 0)) := by
        rcases HA.out with h | ⟨ab, ao, h1, h2⟩
        · rw [h] at hlt; simp at hlt
        · exact ⟨ab, ao, h1, HR.out.u.cell (h2 i hlt) (by simp)⟩
      subst haa
      have hm1 := Int.emod_nonneg (xs.getD i 0) (show (4 : Int) ≠ 0 by omega)
      have hm2 := Int.emod_lt_of_pos (xs.getD i 0) (show (0 : Int) < 4 by omega)
      obtain ⟨k, hk, hkx⟩ : ∃ k : Nat, k < 4 ∧ xs.getD i 0 % 4 = (k : Int) := ⟨(xs.getD i 0 % 4).toNat, by omega, by omega⟩
      rw [hkx, Int.toNat_natCast] at HTK
      have hand : bits BinOp.and IntKind.i64 (xs.getD i 0) 3 = (k : Int) := by rw [and_3s, hkx]
      have HKX := Lib.hid hkx
      clear hm1 hm2 hkx
      generalize xs.getD i 0 = x at hac hand HKX
      have hstb : (i < sts.length ∧ ∃ bb bo, ba = some ⟨bb, bo, none⟩ ∧ wo.cell? ⟨bb, bo + i, none⟩ = some (.bool (sts.getD i false))) ∨ (sts.length ≤ i ∧ sts.getD i false = false) := by
        by_cases h : i < sts.length
        · obtain ⟨bb, bo, h1, h2⟩ := HB.out i h
          exact .inl ⟨h, bb, bo, h1, HR.out.u.cell h2 (by simp)⟩
        · exact .inr ⟨by omega, by rw [List.getD_eq_getElem?_getD, List.getElem?_eq_none (by omega)]; rfl⟩
      generalize hst : sts.getD i false = sb at hstb HTK
      have HST := Lib.hid hst
      clear hst

      cases sb with
      | true =>
        rcases hstb with ⟨hlt2, bb, bo, hbb, hbc⟩ | ⟨_, h⟩
        · subst hbb
          go_wp2_with (at_builtin; refine stop_here ?_)
          refine Hid.mk ?_
          have hup := (Upd.refl [] wo).alloc (.cells #[.int .i64 1, .int .i64 0, .int .i64 0, .int .i64 1, .int .i64 4, .int .i64 k, .int .i64 0, .int .i64 0] 24)
          have hrow : (wo.alloc (.cells #[.int .i64 1, .int .i64 0, .int .i64 0, .int .i64 1, .int .i64 4, .int .i64 k, .int .i64 0, .int .i64 0] 24)).ownsRow (b + 1) 24 4 (.slice kp (2 * i) kc) (2 * i) (xcells (useP ((useOf xs sts).take i))) := by
            have h9 := HR.out.c.upd hup
            unfold OwnX at h9
            rwa [HKL.out] at h9
          have hsz := lt_of_heap HR.out.m
          refine (wpList_append_src rfl _ _ 25 rfl (b + 1) 24 i0 _ 4 32 Tryz.underlying25 HI.out HZ0.out HZ1.out HZ2.out rfl (by decide) _ _ _ rfl hrow _ 2 (xcells [⟨1, 0, 0, 1⟩, ⟨4, (k : Int), 0, 0⟩]) rfl (.inr ⟨_, _, rfl, fun jj u hu => by
            rw [Addr.add_lit, Nat.zero_add, cell_of (heap_alloc_new wo _)]
            show ((xcells [⟨1, 0, 0, 1⟩, ⟨4, (k : Int), 0, 0⟩]).toArray)[jj]? = some u
            rw [List.getElem?_toArray]
            exact hu⟩) rfl (xcells_one _) (by unfold maxLen; omega) (by omega) (by simp; omega) ?_)
          intro v' w7 hown hgr _
          obtain ⟨⟨g, c', rfl⟩, hb7, hz7, hu7, hub, hrf⟩ := (HR.out.upd hup).push (ys := [⟨1, 0, 0, 1⟩, ⟨4, (k : Int), 0, 0⟩]) (n := 2 * i + 2) (by rw [HKL.out]; rfl) (by omega) hown hgr
          have HX7 := Lib.hid (HR.out.upd2 HX.out hup hub)
          have HBS7 : Hid ((w7.setCell ⟨b, 3, none⟩ (.slice (some ⟨g, 0, none⟩) (2 * i + 2) c')).heap[b + 1]? = some (.cells (bcells (seenB ((useOf xs sts).take i))) 4)) := hub.heap (hup.heap HBS.out (by simp)) (by
            intro hm
            rcases List.mem_cons.1 hm with e | e
            · omega
            · exact own_heap_ne HR.out.c HBS.out (by decide) (Option.mem_toList.1 e))
          have HRN : Hid (RfAt w (w7.setCell ⟨b, 3, none⟩ (.slice (some ⟨g, 0, none⟩) (2 * i + 2) c')) b ⟨#[73, 73, 73, 73]⟩ ⟨#[]⟩ ⟨#[]⟩ (.slice (some ⟨g, 0, none⟩) (2 * i + 2) c') (useP ((useOf xs sts).take (i + 1)))) := by
            show RfAt _ _ _ _ _ _ _ _
            rw [HTK.out, useP_snoc]
            exact hrf
          clear hown hgr hrow hsz hup hu7 hub hrf b3 hz3 HR HX HBS
          have hfu : firstU ((useOf xs sts).take (i + 1)) = firstU ((useOf xs sts).take i) := by rw [HTK.out, firstU_snoc, if_neg (by simp)]
          have HXN : Hid (OwnI (w7.setCell ⟨b, 3, none⟩ (.slice (some ⟨g, 0, none⟩) (2 * i + 2) c')) (b + 1) 3 (.slice vp L vc) (firstU ((useOf xs sts).take (i + 1)))) := by
            show OwnI _ _ _ _ _
            rw [hfu]
            exact HX7.out
          have HBSN := HBS7
          clear HX7 HBS7 hfu
          go_upto_region 16 with fail
          generalize w7.setCell ⟨b, 3, none⟩ (.slice (some ⟨g, 0, none⟩) (2 * i + 2) c') = w8 at HRN HXN HBSN ⊢
          have c16 : w8.cell? ⟨b + 1, k, none⟩ = some (.bool (seenU ((useOf xs sts).take i) k)) := by
            rw [cell_of HBSN.out, bcells_get _ _ (by show k < 4; omega), seenB_get _ hk]
          have z16 := froz_of HBSN.out k

          have hs16 := (Upd.refl [b + 1] w8).setCell (p := ⟨b + 1, k, none⟩) (.inl (by simp)) (.bool true)
          have HBS9 : Hid ((w8.setCell ⟨b + 1, k, none⟩ (.bool true)).heap[b + 1]? = some (.cells (bcells (seenB ((useOf xs sts).take (i + 1)))) 4)) := by
            have h9 := heap_setCell HBSN.out k (.bool true)
            rw [bcells_set, seenB_set _ hk true] at h9
            show _ = _
            rw [HTK.out]
            exact h9
          have HR9 := Lib.hid (HRN.out.keep hs16 (fun q hq => by
            simp at hq
            subst hq
            exact ⟨Nat.le_refl _, own_heap_ne HRN.out.c HBSN.out (by decide)⟩))
          have HX9 := Lib.hid (HXN.out.upd hs16 (fun q hq hm => by
            simp at hm
            subst hm
            exact own_heap_ne HXN.out HBSN.out (by decide) hq))
          clear hs16
          go_wp2_with fail
          go_roundw
          case rel => exact ⟨i + 1, _, by omega, by go_num, HR9.out, HX9.out, HBS9.out⟩
          case measure => simp [intOf]; omega
        · cases h
      | false =>
        rcases hstb with ⟨hlt2, bb, bo, hbb, hbc⟩ | ⟨hlt2, _⟩
        · subst hbb
          go_wp2_with (at_builtin; refine stop_here ?_)
          refine Hid.mk ?_
          have hup := (Upd.refl [] wo).alloc (.cells #[.int .i64 3, .int .i64 k, .int .i64 0, .int .i64 0, .int .i64 35, .int .i64 0, .int .i64 0, .int .i64 0] 24)
          have hrow : (wo.alloc (.cells #[.int .i64 3, .int .i64 k, .int .i64 0, .int .i64 0, .int .i64 35, .int .i64 0, .int .i64 0, .int .i64 0] 24)).ownsRow (b + 1) 24 4 (.slice kp (2 * i) kc) (2 * i) (xcells (useP ((useOf xs sts).take i))) := by
            have h9 := HR.out.c.upd hup
            unfold OwnX at h9
            rwa [HKL.out] at h9
          have hsz := lt_of_heap HR.out.m
          refine (wpList_append_src rfl _ _ 25 rfl (b + 1) 24 i0 _ 4 32 Tryz.underlying25 HI.out HZ0.out HZ1.out HZ2.out rfl (by decide) _ _ _ rfl hrow _ 2 (xcells [⟨3, (k : Int), 0, 0⟩, ⟨35, 0, 0, 0⟩]) rfl (.inr ⟨_, _, rfl, fun jj u hu => by
            rw [Addr.add_lit, Nat.zero_add, cell_of (heap_alloc_new wo _)]
            show ((xcells [⟨3, (k : Int), 0, 0⟩, ⟨35, 0, 0, 0⟩]).toArray)[jj]? = some u
            rw [List.getElem?_toArray]
            exact hu⟩) rfl (xcells_one _) (by unfold maxLen; omega) (by omega) (by simp; omega) ?_)
          intro v' w7 hown hgr _
          obtain ⟨⟨g, c', rfl⟩, hb7, hz7, hu7, hub, hrf⟩ := (HR.out.upd hup).push (ys := [⟨3, (k : Int), 0, 0⟩, ⟨35, 0, 0, 0⟩]) (n := 2 * i + 2) (by rw [HKL.out]; rfl) (by omega) hown hgr
          have HX7 := Lib.hid (HR.out.upd2 HX.out hup hub)
          have HBS7 : Hid ((w7.setCell ⟨b, 3, none⟩ (.slice (some ⟨g, 0, none⟩) (2 * i + 2) c')).heap[b + 1]? = some (.cells (bcells (seenB ((useOf xs sts).take i))) 4)) := hub.heap (hup.heap HBS.out (by simp)) (by
            intro hm
            rcases List.mem_cons.1 hm with e | e
            · omega
            · exact own_heap_ne HR.out.c HBS.out (by decide) (Option.mem_toList.1 e))
          have HRN : Hid (RfAt w (w7.setCell ⟨b, 3, none⟩ (.slice (some ⟨g, 0, none⟩) (2 * i + 2) c')) b ⟨#[73, 73, 73, 73]⟩ ⟨#[]⟩ ⟨#[]⟩ (.slice (some ⟨g, 0, none⟩) (2 * i + 2) c') (useP ((useOf xs sts).take (i + 1)))) := by
            show RfAt _ _ _ _ _ _ _ _
            rw [HTK.out, useP_snoc]
            exact hrf
          clear hown hgr hrow hsz hup hu7 hub hrf b3 hz3 HR HX HBS
          go_upto_region 14 with fail
          generalize w7.setCell ⟨b, 3, none⟩ (.slice (some ⟨g, 0, none⟩) (2 * i + 2) c') = w8 at HRN HX7 HBS7 ⊢
          have c14 : w8.cell? ⟨b + 1, k, none⟩ = some (.bool (seenU ((useOf xs sts).take i) k)) := by
            rw [cell_of HBS7.out, bcells_get _ _ (by show k < 4; omega), seenB_get _ hk]
          cases hsn : seenU ((useOf xs sts).take i) k with
          | true =>
            have HSN := Lib.hid hsn
            have hfu : firstU ((useOf xs sts).take (i + 1)) = firstU ((useOf xs sts).take i) := by rw [HTK.out, firstU_snoc, if_neg (by simp [HSN.out])]
            have HXN : Hid (OwnI w8 (b + 1) 3 (.slice vp L vc) (firstU ((useOf xs sts).take (i + 1)))) := by
              show OwnI _ _ _ _ _
              rw [hfu]
              exact HX7.out
            have HBSN := HBS7
            rw [hsn] at c14
            have z16 := froz_of HBSN.out k
            clear HX7 HBS7 hfu hsn
            have hs16 := (Upd.refl [b + 1] w8).setCell (p := ⟨b + 1, k, none⟩) (.inl (by simp)) (.bool true)
            have HBS9 : Hid ((w8.setCell ⟨b + 1, k, none⟩ (.bool true)).heap[b + 1]? = some (.cells (bcells (seenB ((useOf xs sts).take (i + 1)))) 4)) := by
              have h9 := heap_setCell HBSN.out k (.bool true)
              rw [bcells_set, seenB_set _ hk false] at h9
              show _ = _
              rw [HTK.out]
              exact h9
            have HR9 := Lib.hid (HRN.out.keep hs16 (fun q hq => by
              simp at hq
              subst hq
              exact ⟨Nat.le_refl _, own_heap_ne HRN.out.c HBSN.out (by decide)⟩))
            have HX9 := Lib.hid (HXN.out.upd hs16 (fun q hq hm => by
              simp at hm
              subst hm
              exact own_heap_ne HXN.out HBSN.out (by decide) hq))
            clear hs16
            go_wp2_with fail
            go_roundw
            case rel => exact ⟨i + 1, _, by omega, by go_num, HR9.out, HX9.out, HBS9.out⟩
            case measure => simp [intOf]; omega
          | false =>
            have HSN := Lib.hid hsn
            have hfu : firstU ((useOf xs sts).take (i + 1)) = firstU ((useOf xs sts).take i) ++ [(k : Int)] := by rw [HTK.out, firstU_snoc, if_pos ⟨rfl, HSN.out⟩]
            have HFU := Lib.hid hfu
            rw [hsn] at c14
            clear hsn hfu
            go_wp2_with (at_builtin; refine stop_here ?_)
            refine Hid.mk ?_
            have hup := (Upd.refl [] w8).alloc (.cells #[.int .i64 (k : Int)] 3)
            have hrow : (w8.alloc (.cells #[.int .i64 (k : Int)] 3)).ownsRow (b + 1) 3 1 (.slice vp L vc) L ((firstU ((useOf xs sts).take i)).map (Value.int .i64)) := by
              have h := row_upd HX7.out hup (by simp)
              rwa [HL.out] at h
            have hsz := lt_of_heap HRN.out.m
            refine (wpList_append_src rfl _ _ 42 rfl (b + 1) 3 j0 _ 1 8 Tryz.underlying42 HJ.out HY0.out HY1.out HY2.out rfl (by decide) _ _ _ rfl hrow _ 1 ([(k : Int)].map (Value.int .i64)) rfl (.inr ⟨_, _, rfl, fun j u hu => by
              rw [Addr.add_lit, Nat.zero_add, cell_of (heap_alloc_new w8 _)]
              simpa using hu⟩) rfl (by simp [Value.oneCell']) (by unfold maxLen; omega) (by omega) (by simp; omega) ?_)
            intro v' w9 hown hgr _
            have hpu := HX7.out.push (x := (k : Int)) (by rw [HL.out]; exact hown) hgr
            obtain ⟨hx9, hu9, hb9⟩ := hpu
            rw [← HFU.out] at hx9
            have HXn := Lib.hid hx9
            have HBSn := Lib.hid (hu9.heap HBS7.out (fun hm => own_heap_ne HX7.out HBS7.out (by decide) (Option.mem_toList.1 hm)))
            have HRn := Lib.hid (HRN.out.keep hu9 (fun q hq => ⟨(hb9 q hq).1, fun e => own_ne HRN.out.c HX7.out (by decide) q e (Option.mem_toList.1 hq)⟩))
            obtain ⟨p9, c9, hv9⟩ := HXn.out.shape
            subst hv9
            clear hx9 hu9 hb9 hown hgr hrow hsz hup HX7 HBS7 HRN c14
            have HXN := HXn
            have HBSN := HBSn
            have HRN := HRn
            clear HXn HBSn HRn
            have c16 : w9.cell? ⟨b + 1, k, none⟩ = some (.bool (seenU ((useOf xs sts).take i) k)) := by
              rw [cell_of HBSN.out, bcells_get _ _ (by show k < 4; omega), seenB_get _ hk]
            have z16 := froz_of HBSN.out k
            have hs16 := (Upd.refl [b + 1] w9).setCell (p := ⟨b + 1, k, none⟩) (.inl (by simp)) (.bool true)
            have HBS9 : Hid ((w9.setCell ⟨b + 1, k, none⟩ (.bool true)).heap[b + 1]? = some (.cells (bcells (seenB ((useOf xs sts).take (i + 1)))) 4)) := by
              have h9 := heap_setCell HBSN.out k (.bool true)
              rw [bcells_set, seenB_set _ hk false] at h9
              show _ = _
              rw [HTK.out]
              exact h9
            have HR9 := Lib.hid (HRN.out.keep hs16 (fun q hq => by
              simp at hq
              subst hq
              exact ⟨Nat.le_refl _, own_heap_ne HRN.out.c HBSN.out (by decide)⟩))
            have HX9 := Lib.hid (HXN.out.upd hs16 (fun q hq hm => by
              simp at hm
              subst hm
              exact own_heap_ne HXN.out HBSN.out (by decide) hq))
            clear hs16
            go_wp2_with fail
            go_roundw
            case rel => exact ⟨i + 1, _, by omega, by go_num, HR9.out, HX9.out, HBS9.out⟩
            case measure => simp [intOf]; omega
        · have g1 : decide ((i : Int) < (sts.length : Int)) = false := decide_eq_false (by omega)
          have g2 : decide (i < sts.length) = false := decide_eq_false (by omega)
          go_wp2_with (at_builtin; refine stop_here ?_)
          refine Hid.mk ?_
          have hup := (Upd.refl [] wo).alloc (.cells #[.int .i64 3, .int .i64 k, .int .i64 0, .int .i64 0, .int .i64 35, .int .i64 0, .int .i64 0, .int .i64 0] 24)
          have hrow : (wo.alloc (.cells #[.int .i64 3, .int .i64 k, .int .i64 0, .int .i64 0, .int .i64 35, .int .i64 0, .int .i64 0, .int .i64 0] 24)).ownsRow (b + 1) 24 4 (.slice kp (2 * i) kc) (2 * i) (xcells (useP ((useOf xs sts).take i))) := by
            have h9 := HR.out.c.upd hup
            unfold OwnX at h9
            rwa [HKL.out] at h9
          have hsz := lt_of_heap HR.out.m
          refine (wpList_append_src rfl _ _ 25 rfl (b + 1) 24 i0 _ 4 32 Tryz.underlying25 HI.out HZ0.out HZ1.out HZ2.out rfl (by decide) _ _ _ rfl hrow _ 2 (xcells [⟨3, (k : Int), 0, 0⟩, ⟨35, 0, 0, 0⟩]) rfl (.inr ⟨_, _, rfl, fun jj u hu => by
            rw [Addr.add_lit, Nat.zero_add, cell_of (heap_alloc_new wo _)]
            show ((xcells [⟨3, (k : Int), 0, 0⟩, ⟨35, 0, 0, 0⟩]).toArray)[jj]? = some u
            rw [List.getElem?_toArray]
            exact hu⟩) rfl (xcells_one _) (by unfold maxLen; omega) (by omega) (by simp; omega) ?_)
          intro v' w7 hown hgr _
          obtain ⟨⟨g, c', rfl⟩, hb7, hz7, hu7, hub, hrf⟩ := (HR.out.upd hup).push (ys := [⟨3, (k : Int), 0, 0⟩, ⟨35, 0, 0, 0⟩]) (n := 2 * i + 2) (by rw [HKL.out]; rfl) (by omega) hown hgr
          have HX7 := Lib.hid (HR.out.upd2 HX.out hup hub)
          have HBS7 : Hid ((w7.setCell ⟨b, 3, none⟩ (.slice (some ⟨g, 0, none⟩) (2 * i + 2) c')).heap[b + 1]? = some (.cells (bcells (seenB ((useOf xs sts).take i))) 4)) := hub.heap (hup.heap HBS.out (by simp)) (by
            intro hm
            rcases List.mem_cons.1 hm with e | e
            · omega
            · exact own_heap_ne HR.out.c HBS.out (by decide) (Option.mem_toList.1 e))
          have HRN : Hid (RfAt w (w7.setCell ⟨b, 3, none⟩ (.slice (some ⟨g, 0, none⟩) (2 * i + 2) c')) b ⟨#[73, 73, 73, 73]⟩ ⟨#[]⟩ ⟨#[]⟩ (.slice (some ⟨g, 0, none⟩) (2 * i + 2) c') (useP ((useOf xs sts).take (i + 1)))) := by
            show RfAt _ _ _ _ _ _ _ _
            rw [HTK.out, useP_snoc]
            exact hrf
          clear hown hgr hrow hsz hup hu7 hub hrf b3 hz3 HR HX HBS
          go_upto_region 14 with fail
          generalize w7.setCell ⟨b, 3, none⟩ (.slice (some ⟨g, 0, none⟩) (2 * i + 2) c') = w8 at HRN HX7 HBS7 ⊢
          have c14 : w8.cell? ⟨b + 1, k, none⟩ = some (.bool (seenU ((useOf xs sts).take i) k)) := by
            rw [cell_of HBS7.out, bcells_get _ _ (by show k < 4; omega), seenB_get _ hk]
          cases hsn : seenU ((useOf xs sts).take i) k with
          | true =>
            have HSN := Lib.hid hsn
            have hfu : firstU ((useOf xs sts).take (i + 1)) = firstU ((useOf xs sts).take i) := by rw [HTK.out, firstU_snoc, if_neg (by simp [HSN.out])]
            have HXN : Hid (OwnI w8 (b + 1) 3 (.slice vp L vc) (firstU ((useOf xs sts).take (i + 1)))) := by
              show OwnI _ _ _ _ _
              rw [hfu]
              exact HX7.out
            have HBSN := HBS7
            rw [hsn] at c14
            have z16 := froz_of HBSN.out k
            clear HX7 HBS7 hfu hsn
            have hs16 := (Upd.refl [b + 1] w8).setCell (p := ⟨b + 1, k, none⟩) (.inl (by simp)) (.bool true)
            have HBS9 : Hid ((w8.setCell ⟨b + 1, k, none⟩ (.bool true)).heap[b + 1]? = some (.cells (bcells (seenB ((useOf xs sts).take (i + 1)))) 4)) := by
              have h9 := heap_setCell HBSN.out k (.bool true)
              rw [bcells_set, seenB_set _ hk false] at h9
              show _ = _
              rw [HTK.out]
              exact h9
            have HR9 := Lib.hid (HRN.out.keep hs16 (fun q hq => by
              simp at hq
              subst hq
              exact ⟨Nat.le_refl _, own_heap_ne HRN.out.c HBSN.out (by decide)⟩))
            have HX9 := Lib.hid (HXN.out.upd hs16 (fun q hq hm => by
              simp at hm
              subst hm
              exact own_heap_ne HXN.out HBSN.out (by decide) hq))
            clear hs16
            go_wp2_with fail
            go_roundw
            case rel => exact ⟨i + 1, _, by omega, by go_num, HR9.out, HX9.out, HBS9.out⟩
            case measure => simp [intOf]; omega
          | false =>
            have HSN := Lib.hid hsn
            have hfu : firstU ((useOf xs sts).take (i + 1)) = firstU ((useOf xs sts).take i) ++ [(k : Int)] := by rw [HTK.out, firstU_snoc, if_pos ⟨rfl, HSN.out⟩]
            have HFU := Lib.hid hfu
            rw [hsn] at c14
            clear hsn hfu
            go_wp2_with (at_builtin; refine stop_here ?_)
            refine Hid.mk ?_
            have hup := (Upd.refl [] w8).alloc (.cells #[.int .i64 (k : Int)] 3)
            have hrow : (w8.alloc (.cells #[.int .i64 (k : Int)] 3)).ownsRow (b + 1) 3 1 (.slice vp L vc) L ((firstU ((useOf xs sts).take i)).map (Value.int .i64)) := by
              have h := row_upd HX7.out hup (by simp)
              rwa [HL.out] at h
            have hsz := lt_of_heap HRN.out.m
            refine (wpList_append_src rfl _ _ 42 rfl (b + 1) 3 j0 _ 1 8 Tryz.underlying42 HJ.out HY0.out HY1.out HY2.out rfl (by decide) _ _ _ rfl hrow _ 1 ([(k : Int)].map (Value.int .i64)) rfl (.inr ⟨_, _, rfl, fun j u hu => by
              rw [Addr.add_lit, Nat.zero_add, cell_of (heap_alloc_new w8 _)]
              simpa using hu⟩) rfl (by simp [Value.oneCell']) (by unfold maxLen; omega) (by omega) (by simp; omega) ?_)
            intro v' w9 hown hgr _
            have hpu := HX7.out.push (x := (k : Int)) (by rw [HL.out]; exact hown) hgr
            obtain ⟨hx9, hu9, hb9⟩ := hpu
            rw [← HFU.out] at hx9
            have HXn := Lib.hid hx9
            have HBSn := Lib.hid (hu9.heap HBS7.out (fun hm => own_heap_ne HX7.out HBS7.out (by decide) (Option.mem_toList.1 hm)))
            have HRn := Lib.hid (HRN.out.keep hu9 (fun q hq => ⟨(hb9 q hq).1, fun e => own_ne HRN.out.c HX7.out (by decide) q e (Option.mem_toList.1 hq)⟩))
            obtain ⟨p9, c9, hv9⟩ := HXn.out.shape
            subst hv9
            clear hx9 hu9 hb9 hown hgr hrow hsz hup HX7 HBS7 HRN c14
            have HXN := HXn
            have HBSN := HBSn
            have HRN := HRn
            clear HXn HBSn HRn
            have c16 : w9.cell? ⟨b + 1, k, none⟩ = some (.bool (seenU ((useOf xs sts).take i) k)) := by
              rw [cell_of HBSN.out, bcells_get _ _ (by show k < 4; omega), seenB_get _ hk]
            have z16 := froz_of HBSN.out k
            have hs16 := (Upd.refl [b + 1] w9).setCell (p := ⟨b + 1, k, none⟩) (.inl (by simp)) (.bool true)
            have HBS9 : Hid ((w9.setCell ⟨b + 1, k, none⟩ (.bool true)).heap[b + 1]? = some (.cells (bcells (seenB ((useOf xs sts).take (i + 1)))) 4)) := by
              have h9 := heap_setCell HBSN.out k (.bool true)
              rw [bcells_set, seenB_set _ hk false] at h9
              show _ = _
              rw [HTK.out]
              exact h9
            have HR9 := Lib.hid (HRN.out.keep hs16 (fun q hq => by
              simp at hq
              subst hq
              exact ⟨Nat.le_refl _, own_heap_ne HRN.out.c HBSN.out (by decide)⟩))
            have HX9 := Lib.hid (HXN.out.upd hs16 (fun q hq hm => by
              simp at hm
              subst hm
              exact own_heap_ne HXN.out HBSN.out (by decide) hq))
            clear hs16
            go_wp2_with fail
            go_roundw
            case rel => exact ⟨i + 1, _, by omega, by go_num, HR9.out, HX9.out, HBS9.out⟩
            case measure => simp [intOf]; omega
    · obtain rfl : i = xs.length := by omega
      have htk : (useOf xs sts).take xs.length = useOf xs sts := List.take_of_length_le (by rw [useOf_len]; omega)
      rw [htk] at HR HX HL HKL HBS
      have hlow := useOf_low xs sts
      have hul := useOf_len xs sts
      generalize useOf xs sts = us at HR HX HL HKL hlow hul
      have HLOW := Lib.hid hlow
      clear htk hlow HBS
      go_wp2_with (at_builtin; refine stop_here ?_)
      refine Hid.mk ?_
      have hup := (Upd.refl [] wo).alloc (.cells #[.int .i64 33, .int .i64 0, .int .i64 0, .int .i64 0] 24)
      have hrow : (wo.alloc (.cells #[.int .i64 33, .int .i64 0, .int .i64 0, .int .i64 0] 24)).ownsRow (b + 1) 24 4 (.slice kp (2 * xs.length) kc) (2 * xs.length) (xcells (useP us)) := by
        have h9 := HR.out.c.upd hup
        unfold OwnX at h9
        rwa [HKL.out] at h9
      have hsz := lt_of_heap HR.out.m
      refine (wpList_append_src rfl _ _ 25 rfl (b + 1) 24 i0 _ 4 32 Tryz.underlying25 HI.out HZ0.out HZ1.out HZ2.out rfl (by decide) _ _ _ rfl hrow _ 1 (xcells [⟨33, 0, 0, 0⟩]) rfl (.inr ⟨_, _, rfl, fun jj u hu => by
        rw [Addr.add_lit, Nat.zero_add, cell_of (heap_alloc_new wo _)]
        show ((xcells [⟨33, 0, 0, 0⟩]).toArray)[jj]? = some u
        rw [List.getElem?_toArray]
        exact hu⟩) rfl (xcells_one _) (by unfold maxLen; omega) (by omega) (by simp; omega) ?_)
      intro v' w7 hown hgr _
      obtain ⟨⟨g, c', rfl⟩, hb7, hz7, hu7, hub, hrf⟩ := (HR.out.upd hup).push (ys := [⟨33, 0, 0, 0⟩]) (n := 2 * xs.length + 1) (by rw [HKL.out]; rfl) (by omega) hown hgr
      have HX7 := Lib.hid (HR.out.upd2 HX.out hup hub)
      have HRN := Lib.hid hrf
      clear hown hgr hrow hsz hup hu7 hub hrf b3 hz3 HR HX
      have HCQ : Hid (useP us ++ [(⟨33, 0, 0, 0⟩ : Ins)] = useC us) := (useC_eq us).symm
      rw [HCQ.out] at HRN
      go_upto_region 18 with fail
      clear hb7 hz7
      generalize w7.setCell ⟨b, 3, none⟩ (.slice (some ⟨g, 0, none⟩) (2 * xs.length + 1) c') = w8 at HRN HX7 ⊢
      have hcl := useC_len us
      have hcd := HRN.out.c.code (fun q hq => sto_bd us HLOW.out q hq)
      have hC1 := code_lit w8 r8.code (by decide) (fun i hi => by
        obtain rfl : i = 0 := by have h : r8.code.length = 1 := rfl; omega
        exact bd_tiny (by decide))
      have hA9 := (Upd.refl [] w8).alloc (.cells (xcells r8.code).toArray 24)
      have hcd9 := hcd.upd hA9
      have z9 : (w8.alloc (.cells (xcells r8.code).toArray 24)).heap.size = w8.heap.size + 1 := by simp
      generalize hw9 : w8.alloc (.cells (xcells r8.code).toArray 24) = w9 at hA9 hC1 hcd9 z9
      have hM := meths_lit w9 [r8, stoM us] [.slice (some ⟨w8.heap.size, 0, none⟩) 1 1, .slice (some ⟨g, 0, none⟩) (2 * xs.length + 1) c'] rfl (by simp) (fun i hi => by
        have : i = 0 ∨ i = 1 := by have h : [r8, stoM us].length = 2 := rfl; omega
        rcases this with rfl | rfl
        · exact ⟨by show 0 ≤ maxLen; decide, by show 0 ≤ maxLen; decide, by show 0 ≤ maxLen; decide⟩
        · exact ⟨by show 4 ≤ maxLen; decide, by show 0 ≤ maxLen; decide, by show 0 ≤ maxLen; decide⟩) (fun i hi => by
        have : i = 0 ∨ i = 1 := by have h : [r8, stoM us].length = 2 := rfl; omega
        rcases this with rfl | rfl
        · exact hC1
        · exact hcd9)
      have hA10 := hA9.alloc (.cells (mcells [r8, stoM us] [.slice (some ⟨w8.heap.size, 0, none⟩) 1 1, .slice (some ⟨g, 0, none⟩) (2 * xs.length + 1) c']).toArray 27)
      generalize hw10 : w9.alloc (.cells (mcells [r8, stoM us] [.slice (some ⟨w8.heap.size, 0, none⟩) 1 1, .slice (some ⟨g, 0, none⟩) (2 * xs.length + 1) c']).toArray 27) = w10 at hA10 hM
      have hW : w10 = (w8.alloc (.cells #[.int .i64 33, .int .i64 0, .int .i64 0, .int .i64 0] 24)).alloc (.cells #[.string ⟨#[]⟩, .string ⟨#[]⟩, .string ⟨#[]⟩, .slice (some ⟨w8.heap.size, 0, none⟩) 1 1, .string ⟨#[73, 73, 73, 73]⟩, .string ⟨#[]⟩, .string ⟨#[]⟩, .slice (some ⟨g, 0, none⟩) (2 * xs.length + 1) c'] 27) := by
        rw [← hw10, ← hw9]
        rfl
      rw [z9] at hM
      have HW := Lib.hid hW
      obtain ⟨m0, m1, m2, m3⟩ := HRN.out.cells
      have n0 := hA9.cell m0 (by simp)
      have n1 := hA9.cell m1 (by simp)
      have n2 := hA9.cell m2 (by simp)
      have n3 := hA9.cell m3 (by simp)
      rw [← hw9] at n0 n1 n2 n3
      have n0 : (w8.alloc (.cells #[.int .i64 33, .int .i64 0, .int .i64 0, .int .i64 0] 24)).cell? ⟨b, 0, none⟩ = some (.string ⟨#[73, 73, 73, 73]⟩) := n0
      have n1 : (w8.alloc (.cells #[.int .i64 33, .int .i64 0, .int .i64 0, .int .i64 0] 24)).cell? ⟨b, 1, none⟩ = some (.string ⟨#[]⟩) := n1
      have n2 : (w8.alloc (.cells #[.int .i64 33, .int .i64 0, .int .i64 0, .int .i64 0] 24)).cell? ⟨b, 2, none⟩ = some (.string ⟨#[]⟩) := n2
      have n3 : (w8.alloc (.cells #[.int .i64 33, .int .i64 0, .int .i64 0, .int .i64 0] 24)).cell? ⟨b, 3, none⟩ = some (.slice (some ⟨g, 0, none⟩) (2 * xs.length + 1) c') := n3
      have HR10 := Lib.hid (HRN.out.upd hA10)
      have HX10 := Lib.hid (HX7.out.upd hA10 (by simp))
      have HS10 := Lib.hid (HS.out.upd HR10.out.u)
      have HOF := Lib.hid (ofV_any (stoP us) (.slice none 0 0) (.slice (some ⟨w8.heap.size + 1, 0, none⟩) 2 2) E w10 HS10.out (class_nil _) hM)
      clear hcd hC1 hA9 hcd9 z9 hw9 hM hA10 hw10 hW HRN HX7 m0 m1 m2 m3
      go_wp2_with fail
      rw [← HW.out]
      refine HOF.out.mono ?_
      rintro e w11 ⟨v1, rfl, hend⟩
      obtain ⟨ib, ss, hsl, hlk, rfl, hinfo, hib, hu11⟩ := hend.good (sto_ok us HLOW.out (by omega)) (sto_looks us HLOW.out)
      have HI5 := Lib.hid (InfoK.start hinfo)
      have HT11 := Lib.hid (HT.out.upd ((HR10.out.u).trans hu11) (by simp))
      have HR11 := Lib.hid (HR10.out.upd hu11)
      have HX11 := Lib.hid (OwnI.upd HX10.out hu11 (by simp))
      have hL1 : lookM (stoP us) (stoM us) = .ok (ss.getD 1 default) := hlk 1 (by show 1 < 2; omega)
      have HP : Hid (LvP (stoP us) ss 1 (stoM us) (ss.getD 1 default)) := ⟨hsl, by show 1 < 2; omega, sto_ok us HLOW.out (by omega), hlk, rfl, rfl⟩
      have hseen : ∀ i, i ≤ 2 * us.length → seenF (ss.getD 1 default) i = true := by
        obtain ⟨s2, h1, h2⟩ := sto_look us HLOW.out
        rw [hL1] at h1
        injection h1 with h1
        rw [h1]
        exact h2
      generalize hsd : ss.getD 1 default = s at hL1 HP hseen
      have HSEEN := Lib.hid hseen
      have hibs : ib < w11.heap.size := HI5.out.lt
      have hlt8 := HR10.out.u.size
      have HIB : Hid (w10.heap.size ≤ ib) := hib
      have hblt := lt_of_heap HR10.out.m
      have HBIB : Hid (b + 1 ≤ ib) := by show _ ≤ _; omega
      clear hend hinfo hib hlk hsl hL1 HOF hsd hseen n0 n1 n2 n3 hu11
      go_wp2_with fail
      refine (live_of ib 1 w11).mono ?_
      rintro e w12 ⟨rfl, hw12⟩
      have hb12 := heap_alloc_new w11 (.cells (mapCells ib 1 0 0 nilM (.slice none 0 0) (.slice none 0 0)) 147)
      have hu12 := (Upd.refl [] w11).alloc (.cells (mapCells ib 1 0 0 nilM (.slice none 0 0) (.slice none 0 0)) 147)
      rw [← hw12] at hb12 hu12
      have hnew : LvNew w11 w12 w11.heap.size ib (stoP us) ss 0 0 1 := ⟨hb12, HI5.out.keep hu12 (by simp), HT11.out.upd hu12 (by simp)⟩
      have HR12 := Lib.hid (HR11.out.upd hu12)
      have HX12 := Lib.hid (OwnI.upd HX11.out hu12 (by simp))
      have HLO := Lib.hid (locals_any w11 w11.heap.size ib (stoP us) ss 0 0 1 (stoM us) s 0 w12 HP.out (Nat.le_refl _) (by omega) (by omega) (.inl hnew))
      have hs11 : w11.heap.size ≤ w12.heap.size := hu12.size
      clear hb12 hu12 hnew hw12
      go_wp2_with fail
      refine HLO.out.mono ?_
      rintro e w13 ⟨n7, wa, u7, hn1, hn2, hD7, hu7, rfl, ho7, hu7b⟩
      rw [sto_first HSEEN.out] at ho7
      have hsza := hu7.size
      have hxl := HX10.out
      have HXL := Lib.hid (show ∀ k, (Value.slice vp L vc).ownBlock = some k → k < w10.heap.size from fun k hk => (World.ownsRow.lt HX10.out k hk).2)
      have HKB := Lib.hid (show ∀ k, (Value.slice (some ⟨g, 0, none⟩) (2 * xs.length + 1) c').ownBlock = some k → k < w10.heap.size from fun k hk => (HR10.out.c.lt k hk).2)
      have hwib := HIB.out
      have HRa : Hid (RfAt w wa b ⟨#[73, 73, 73, 73]⟩ ⟨#[]⟩ ⟨#[]⟩ (.slice (some ⟨g, 0, none⟩) (2 * xs.length + 1) c') (useC us)) := HR12.out.keep hu7 (fun q hq => by
        simp at hq
        refine ⟨by omega, fun e => ?_⟩
        have := HKB.out q e
        omega)
      have HXa : Hid (OwnI wa (b + 1) 3 (.slice vp L vc) (firstU us)) := OwnI.upd HX12.out hu7 (fun q hq hm => by
        have := HXL.out q hq
        simp at hm
        omega)
      have HDa := Lib.hid hD7
      have hba : b < wa.heap.size := lt_of_heap HRa.out.m
      obtain ⟨up7, uc7, hup7⟩ := ho7.shape
      subst hup7
      generalize hL7 : (ints ((List.range 4).filter fun k => askU k us)).length = L7
      have hL7b : L7 ≤ 4 := by
        rw [← hL7, ints_len]
        exact Nat.le_trans (List.length_filter_le _ _) (by simp)
      have HO7 := Lib.hid ho7
      have HU7 := Lib.hid hu7b
      have HL7 := Lib.hid hL7
      clear hD7 hu7 ho7 hu7b hL7 hxl HLO HR11 HR12 HX11 HX12 HR10 HX10 hs11 hlt8 HW
      go_wp2_with fail
      go_loopw [15] (fun iv wr => ∃ (j : Nat) (ys : List Int), j ≤ L7 ∧ iv = .int .i64 j ∧ Hid (ys.length = L7) ∧ Hid (OwnI wr wa.heap.size 3 (.slice up7 L7 uc7) ys) ∧ Hid (Upd [] wa wr)) (fun iv _ => L7 - (intOf iv).toNat)
      case atStart =>
        refine ⟨0, _, by omega, rfl, HL7.out, ?_, HU7.out⟩
        have := HO7.out
        rw [HL7.out] at this
        exact this
      case round =>
        obtain ⟨j, ys, hj, rfl, HYL, HOY, HUY⟩ := hrel
        obtain ⟨wj, rfl⟩ : ∃ wj : World, wj = wr := ⟨_, rfl⟩
        clear HO7 HU7
        by_cases hlt : j < L7
        · obtain ⟨gu, hgu, hcu, hge⟩ : ∃ gu, up7 = some ⟨gu, 0, none⟩ ∧ wj.cell? ⟨gu, j, none⟩ = some (.int .i64 (ys.getD j 0)) ∧ wa.heap.size ≤ gu := by
            rcases HOY.out.form with ⟨h1, h2⟩ | ⟨g2, c2, h1, h2, h3, h4, h5⟩
            · have := HYL.out; rw [h2] at this; simp at this; omega
            · injection h1 with h1
              exact ⟨g2, h1, h5 j (by have := HYL.out; omega), h3⟩
          subst hgu
          have hfz : wj.frozen? ⟨gu, j, none⟩ = false := by
            rcases HOY.out.2 with ⟨h1, _⟩ | ⟨g3, c3, cur, h1, _, h4, _⟩
            · cases h1
            · injection h1 with h1 _ _
              injection h1 with h1
              injection h1 with h1 _ _
              subst h1
              exact froz_of h4 j
          have HSJ := Lib.hid (fun z => OwnI.setj HYL.out HOY.out j z)
          have HUJ := Lib.hid (fun z => HUY.out.setCell (p := ⟨gu, j, none⟩) (.inr hge) z)
          go_wp2_with fail
          go_roundw
          case rel => exact ⟨j + 1, _, by omega, by go_num, by show (ys.set j _).length = _; rw [List.length_set]; exact HYL.out, HSJ.out _, HUJ.out _⟩
          case measure => simp [intOf]; omega
        · obtain rfl : j = L7 := by omega
          have HDj := Lib.hid (show ∃ B lb kv F bk gk, LvD w11 wj w11.heap.size ib (stoP us) ss 0 n7 1 (stoM us) s B lb kv F bk gk from by
            obtain ⟨B, lb, kv, F, bk, gk, hD⟩ := HDa.out
            exact ⟨B, lb, kv, F, bk, gk, hD.upd HUY.out⟩)
          have HRj := Lib.hid (HRa.out.upd HUY.out)
          have HXj := Lib.hid (OwnI.upd HXa.out HUY.out (by simp))
          have HLO := Lib.hid (locals_any w11 w11.heap.size ib (stoP us) ss 0 n7 1 (stoM us) s 0 wj HP.out (Nat.le_refl _) (by omega) (by omega) (.inr HDj.out))
          have hszj := HUY.out.size
          clear HOY HUY HYL HRa HXa HDa
          go_wp2_with fail
          refine HLO.out.mono ?_
          rintro e w14 ⟨n9, wb, u9, hn3, hn4, hD9, hu9, rfl, ho9, hu9b⟩
          rw [sto_first HSEEN.out] at ho9
          have HRb : Hid (RfAt w wb b ⟨#[73, 73, 73, 73]⟩ ⟨#[]⟩ ⟨#[]⟩ (.slice (some ⟨g, 0, none⟩) (2 * xs.length + 1) c') (useC us)) := HRj.out.keep hu9 (fun q hq => by
            simp at hq
            refine ⟨by omega, fun e => ?_⟩
            have := HKB.out q e
            omega)
          have HXb : Hid (OwnI wb (b + 1) 3 (.slice vp L vc) (firstU us)) := OwnI.upd HXj.out hu9 (fun q hq hm => by
            have := HXL.out q hq
            simp at hm
            omega)
          have HD14 := Lib.hid (show ∃ B lb kv F bk gk, LvD w11 w14 w11.heap.size ib (stoP us) ss 0 n9 1 (stoM us) s B lb kv F bk gk from by
            obtain ⟨B, lb, kv, F, bk, gk, hD⟩ := hD9
            exact ⟨B, lb, kv, F, bk, gk, hD.upd hu9b⟩)
          have HR14 := Lib.hid (HRb.out.upd hu9b)
          obtain ⟨bx, hix, _⟩ := (OwnI.upd HXb.out hu9b (by simp)).ints
          obtain ⟨b9, hi9, _⟩ := ho9.ints
          obtain ⟨up9, uc9, rfl⟩ := ho9.shape
          have HI9 := Lib.hid hi9
          have HSO := Lib.hid (sorted_any (.slice vp L vc) bx (firstU us) w14 hix (by have := firstU_len us; omega))
          clear hD9 hu9 ho9 hu9b hix hi9 HRj HXj HDj HXb HRb HLO
          go_wp2_with fail
          refine HSO.out.mono ?_
          rintro e w15 ⟨u15, rfl, ho15, hu15⟩
          rw [firstU_sorted us HLOW.out] at ho15
          obtain ⟨b15, hi15, _⟩ := ho15.ints
          obtain ⟨up15, uc15, rfl⟩ := ho15.shape
          have HSI := Lib.hid (sints _ _ _ _ _ _ w15 (HI9.out.upd hu15 (.inr (by simp))) hi15 (by rw [ints_len]; exact Nat.le_trans (List.length_filter_le _ _) (by simp)))
          have HU15 := Lib.hid hu15
          clear ho15 hu15 hi15 HSO HI9
          go_wp2_with fail
          refine HSI.out.mono ?_
          rintro e w16 ⟨rfl, hu16⟩
          have HD16 := Lib.hid (show ∃ B lb kv F bk gk, LvD w11 w16 w11.heap.size ib (stoP us) ss 0 n9 1 (stoM us) s B lb kv F bk gk from by
            obtain ⟨B, lb, kv, F, bk, gk, hD⟩ := HD14.out
            exact ⟨B, lb, kv, F, bk, gk, (hD.upd HU15.out).upd hu16⟩)
          have HR16 := Lib.hid ((HR14.out.upd HU15.out).upd hu16)
          obtain ⟨_, _, _, m3⟩ := HR16.out.cells
          have HLO := Lib.hid (locals_any w11 w11.heap.size ib (stoP us) ss 0 n9 1 (stoM us) s (2 * xs.length : Nat) w16 HP.out (Nat.le_refl _) (by omega) (by omega) (.inr HD16.out))
          have hnum : ((2 * xs.length + 1 : Nat) : Int) - 1 = ((2 * xs.length : Nat) : Int) := by omega
          clear hu16 HU15 HSI HR14 HD14
          go_wp2_with fail
          refine HLO.out.mono ?_
          rintro e w17 ⟨n11, wc, u17, hn5, hn6, _, hu17, rfl, ho17, hu17b⟩
          have hlast : locG (stoM us) s ((2 * xs.length : Nat) : Int) = [] := by
            have := sto_last (us := us) (s := s)
            rwa [hul] at this
          rw [hlast] at ho17
          obtain ⟨up17, uc17, rfl⟩ := ho17.shape
          have HUE : Hid (Upd [] w w17) := ((HR16.out.u).trans' hu17 (fun q hq hl => by simp at hq; omega)).trans hu17b
          clear hu17 hu17b ho17 hlast HR16 HD16 HLO
          go_wp2_with fail
          go_ret
          exact ⟨rfl, HUE.out⟩
end Go.Proofs.YtpmfbhoochogoaaGreatDoor
