/- VerifyRefs: the law's walk (under way). -/
import Derived.Test.YtpmfbhoochogoaaDoorRfAt
import Derived.Test.YtpmfbhoochogoaaDoorRefM
import Derived.Test.YtpmfbhoochogoaaDoorOfV
import Derived.Test.YtpmfbhoochogoaaDoorSameI
import Derived.Test.YtpmfbhoochogoaaDoorRefM
import Derived.Test.YtpmfbhoochogoaaDoorOfV
import Derived.Test.YtpmfbhoochogoaaDoorRefsW
import Derived.Test.YtpmfbhoochogoaaDoorOpenB
namespace Go.Proofs.YtpmfbhoochogoaaDoor
open Go.RowKit

theorem lets_snoc (bl : List Bool) (i : Nat) (h : i < bl.length) : lets (bl.take (i + 1)) = lets (bl.take i) ++ [if bl.getD i false then lR else lI] := by
  rw [take_last bl i h]; simp [lets]
theorem want_snoc (bl : List Bool) (i k : Nat) (h : i < bl.length) : refsL (lets (bl.take (i + 1))) k = refsL (lets (bl.take i)) k ++ if bl.getD i false then [((k + i : Nat) : Int)] else [] := by
  rw [lets_snoc bl i h, refsL_snoc, lets_len, List.length_take, Nat.min_eq_left (by omega)]
  cases bl.getD i false <;> simp [lR, lI]
theorem bs_R (l : List UInt8) : bs l ++ (⟨#[82]⟩ : ByteArray) = bs (l ++ [lR]) := bs_append l [lR]
theorem bs_I (l : List UInt8) : bs l ++ (⟨#[73]⟩ : ByteArray) = bs (l ++ [lI]) := bs_append l [lI]

set_option maxRecDepth 100000 in
set_option maxHeartbeats 4000000 in
theorem refsLaw_any (E : Nat → Addr) (va vb : Value) (bl bp : List Bool) (w : World) (hS : SentAt w E) (ha : BoolsAt w va bl) (hb : BoolsAt w vb bp) :
    Calls Tryd.prog 4 #[va, vb] w fun e w' => e = .returned (.bool true) ∧ Upd [] w w' := by
  obtain ⟨i0, hi, hz0, hz1, hz2⟩ := info_parts Tryd.infoInstr
  have HI := Lib.hid hi
  have HZ0 := Lib.hid hz0
  have HZ1 := Lib.hid hz1
  have HZ2 := Lib.hid hz2
  obtain ⟨j0, hj, hy0, hy1, hy2⟩ := info_parts Tryd.infoInt
  have HJ := Lib.hid hj
  have HY0 := Lib.hid hy0
  have HY1 := Lib.hid hy1
  have HY2 := Lib.hid hy2
  clear hi hz0 hz1 hz2 hj hy0 hy1 hy2
  have HS := Lib.hid hS
  obtain ⟨aa, ac, rfl, hax⟩ := ha
  obtain ⟨ba, bc, rfl, hbx⟩ := hb
  have HA := Lib.hid hax
  have HB := Lib.hid hbx
  clear hax hbx hS
  go_enter Tryd.func4, Tryd.ntmps4
  go_wp2_with fail
  refine (first7_any E w HS.out).mono ?_
  rintro e w1 ⟨rfl, hu1⟩
  have HU1 := Lib.hid hu1
  clear hu1
  by_cases hl1 : bl.length > 12
  · have d0 : decide ((bl.length : Int) > 12) = true := by simp; omega
    go_wp2_with fail
    go_ret
    exact ⟨rfl, HU1.out⟩
  by_cases hl2 : bp.length > 12
  · have d0 : decide ((bl.length : Int) > 12) = false := by simp; omega
    have d1 : decide ((bp.length : Int) > 12) = true := by simp; omega
    go_wp2_with fail
    go_ret
    exact ⟨rfl, HU1.out⟩
  have d0 : decide ((bl.length : Int) > 12) = false := by simp; omega
  have d1 : decide ((bp.length : Int) > 12) = false := by simp; omega
  have HM2 := Lib.hid (heap_alloc_new w1 (.cells #[.string ⟨#[]⟩, .string ⟨#[]⟩, .string ⟨#[]⟩, .slice none 0 0] 39))
  have HU2 := Lib.hid (HU1.out.alloc (.cells #[.string ⟨#[]⟩, .string ⟨#[]⟩, .string ⟨#[]⟩, .slice none 0 0] 39))
  have HZB := Lib.hid HU1.out.size
  go_upto_region 5 with fail
  clear d0 d1
  generalize w1.alloc (.cells #[.string ⟨#[]⟩, .string ⟨#[]⟩, .string ⟨#[]⟩, .slice none 0 0] 39) = w2 at HM2 HU2 ⊢
  generalize w1.heap.size = b at HM2 HZB ⊢
  clear HU1
  go_wp2_with fail
  go_loopw [7, 8] (fun v iv wr => ∃ i : Nat, i ≤ bl.length ∧ iv = .int .i64 i ∧ Hid (wr.heap[b]? = some (.cells #[.string ⟨#[]⟩, .string (bs (lets (bl.take i))), .string ⟨#[]⟩, .slice none 0 0] 39)) ∧ Hid (OwnI wr (b + 1) 3 v (refsL (lets (bl.take i)) 0)) ∧ Hid (Upd [] w wr)) (fun _ iv _ => bl.length - (intOf iv).toNat)
  case atStart => exact ⟨0, by omega, rfl, HM2.out, OwnI.nil _ _ _, HU2.out⟩
  case round =>
    clear HM2 HU2
    obtain ⟨i, hi, rfl, HM, HX, HU⟩ := hrel
    obtain ⟨wo, rfl⟩ : ∃ wo : World, wo = wr := ⟨_, rfl⟩
    obtain ⟨vp, vc, hv⟩ := HX.out.shape
    generalize hL : (refsL (lets (bl.take i)) 0).length = L at hv
    subst hv
    have HL := Lib.hid hL
    clear hL
    by_cases hlt : i < bl.length
    · obtain ⟨ab, ao, rfl, hac⟩ := HA.out i hlt
      have hac := HU.out.cell hac (by simp)
      have m1 : wo.cell? ⟨b, 1, none⟩ = some (.string (bs (lets (bl.take i)))) := by rw [cell_of HM.out]; rfl
      have hz1 := froz_of HM.out 1
      have hs1 : (bs (lets (bl.take i))).size ≤ 12 := by rw [bs_size, lets_len, List.length_take]; omega
      have HW := Lib.hid (want_snoc bl i 0 hlt)
      have HLS := Lib.hid (lets_snoc bl i hlt)
      have hR := bs_R (lets (bl.take i))
      have hII := bs_I (lets (bl.take i))
      cases hbit : bl.getD i false with
      | true =>
        rw [hbit] at HW HLS hac
        go_upto_region 11 with fail
        have HM6 : Hid ((wo.setCell ⟨b, 1, none⟩ (.string (bs (lets (bl.take i) ++ [lR])))).heap[b]? = some (.cells #[.string ⟨#[]⟩, .string (bs (lets (bl.take (i + 1)))), .string ⟨#[]⟩, .slice none 0 0] 39)) := by
          have h := heap_setCell HM.out 1 (.string (bs (lets (bl.take i) ++ [lR])))
          have e : lets (bl.take (i + 1)) = lets (bl.take i) ++ [lR] := HLS.out
          rw [e]
          exact h
        have hut : Upd [b] wo (wo.setCell ⟨b, 1, none⟩ (.string (bs (lets (bl.take i) ++ [lR])))) := (Upd.refl _ _).setCell (Or.inl (by simp)) _
        generalize wo.setCell ⟨b, 1, none⟩ (.string (bs (lets (bl.take i) ++ [lR]))) = w6 at HM6 hut ⊢
        have HX6 : Hid (OwnI w6 (b + 1) 3 (.slice vp L vc) (refsL (lets (bl.take i)) 0)) := row_upd HX.out hut (fun q hq hm => by
          have h1 := (World.ownsRow.lt HX.out q hq).1
          simp at hm
          omega)
        have HU6 : Hid (Upd [] w w6) := HU.out.trans' hut (fun q hq hl => by simp at hq; have := HZB.out; omega)
        clear hut HX HU HM m1 hs1 hR hII hac HLS hz1
        go_wp2_with (at_builtin; refine stop_here ?_)
        refine Hid.mk ?_
        have hrow : (w6.alloc (.cells #[.int .i64 (i : Int)] 3)).ownsRow (b + 1) 3 1 (.slice vp L vc) L ((refsL (lets (bl.take i)) 0).map (Value.int .i64)) := by
          have h := row_upd HX6.out ((Upd.refl [] w6).alloc (.cells #[.int .i64 (i : Int)] 3)) (by simp)
          rwa [HL.out] at h
        have hsz := lt_of_heap HM6.out
        have hLl : L ≤ 12 := by rw [← HL.out]; exact Nat.le_trans (refsL_le _ _) (by rw [lets_len, List.length_take]; omega)
        refine (wpList_append_src rfl _ _ 40 rfl (b + 1) 3 j0 _ 1 8 Tryd.underlying40 HJ.out HY0.out HY1.out HY2.out rfl (by decide) _ _ _ rfl hrow _ 1 ([(i : Int)].map (Value.int .i64)) rfl (.inr ⟨_, _, rfl, fun j u hu => by
          rw [Addr.add_lit, Nat.zero_add, cell_of (heap_alloc_new w6 _)]
          show (([(i : Int)].map (Value.int .i64)).toArray)[j]? = some u
          rw [List.getElem?_toArray]
          exact hu⟩) rfl (oneI _) (by unfold maxLen; omega) (by omega) (by simp; omega) ?_)
        intro v' w7 hown hgr _
        have hown2 : w7.ownsRow (b + 1) 3 1 v' ((refsL (lets (bl.take i)) 0).length + 1) ((refsL (lets (bl.take i)) 0).map (Value.int .i64) ++ [.int .i64 (i : Int)]) := by rw [HL.out]; exact hown
        obtain ⟨hP, hW, hBk⟩ := HX6.out.push hown2 hgr
        have hw2 := HW.out
        rw [if_pos trivial, Nat.zero_add] at hw2
        rw [← hw2] at hP
        have HP := Lib.hid hP
        have HM7 := Lib.hid (hW.heap HM6.out (fun h => by have := (hBk _ h).1; omega))
        have HU7 := Lib.hid (HU6.out.trans' hW (fun q hq hl => by have := (hBk q hq).1; have := HZB.out; omega))
        clear hP hW hBk hown hown2 hgr hrow hsz hLl hw2
        go_wp2_with fail
        go_roundw
        case rel => exact ⟨i + 1, by omega, by go_num, HM7.out, HP.out, HU7.out⟩
        case measure => simp [intOf]; omega
      | false =>
        rw [hbit] at HW HLS hac
        go_upto_region 8 with fail
        have HM6 : Hid ((wo.setCell ⟨b, 1, none⟩ (.string (bs (lets (bl.take i) ++ [lI])))).heap[b]? = some (.cells #[.string ⟨#[]⟩, .string (bs (lets (bl.take (i + 1)))), .string ⟨#[]⟩, .slice none 0 0] 39)) := by
          have h := heap_setCell HM.out 1 (.string (bs (lets (bl.take i) ++ [lI])))
          have e : lets (bl.take (i + 1)) = lets (bl.take i) ++ [lI] := HLS.out
          rw [e]
          exact h
        have hut : Upd [b] wo (wo.setCell ⟨b, 1, none⟩ (.string (bs (lets (bl.take i) ++ [lI])))) := (Upd.refl _ _).setCell (Or.inl (by simp)) _
        generalize wo.setCell ⟨b, 1, none⟩ (.string (bs (lets (bl.take i) ++ [lI]))) = w6 at HM6 hut ⊢
        have hw2 := HW.out
        rw [if_neg (by simp), List.append_nil] at hw2
        have HW2 := Lib.hid hw2
        have HX6 : Hid (OwnI w6 (b + 1) 3 (.slice vp L vc) (refsL (lets (bl.take i)) 0)) := row_upd HX.out hut (fun q hq hm => by
          have h1 := (World.ownsRow.lt HX.out q hq).1
          simp at hm
          omega)
        have HU6 : Hid (Upd [] w w6) := HU.out.trans' hut (fun q hq hl => by simp at hq; have := HZB.out; omega)
        clear hut HX HU HM m1 hs1 hR hII hac HLS hz1 hw2 HW
        go_wp2_with fail
        go_roundw
        case rel => exact ⟨i + 1, by omega, by go_num, HM6.out, by rw [HW2.out]; exact HX6.out, HU6.out⟩
        case measure => simp [intOf]; omega
    · obtain rfl : i = bl.length := by omega
      have hx := HX.out
      rw [List.take_length] at hx
      have hm := HM.out
      rw [List.take_length] at hm
      have HXL := Lib.hid hx
      have HML := Lib.hid hm
      clear hx hm HX HM HL
      go_wp2_with fail
      go_loopw [7, 9] (fun v jv wr => ∃ (j : Nat) (kv : Value), j ≤ bp.length ∧ jv = .int .i64 j ∧ Hid (RfAt w wr b ⟨#[]⟩ (bs (lets bl)) ⟨#[]⟩ kv ((bp.take j).map pushI)) ∧ Hid (OwnI wr (b + 1) 3 v (refsL (lets bl ++ lets (bp.take j)) 0))) (fun _ iv _ => bp.length - (intOf iv).toNat)
      case atStart => exact ⟨0, .slice none 0 0, by omega, rfl, ⟨HML.out, OwnX.nil _ _, HU.out, HZB.out⟩, by show OwnI _ _ _ _ (refsL (lets bl ++ []) 0); rw [List.append_nil]; exact HXL.out⟩
      case round =>
        clear HXL HML HU
        obtain ⟨j, kv, hj, rfl, HRF, HX⟩ := hrel
        obtain ⟨wo, rfl⟩ : ∃ wo : World, wo = wr := ⟨_, rfl⟩
        obtain ⟨kp, kc, hkv⟩ := HRF.out.c.shape
        have hkl : ((bp.take j).map pushI).length = j := by rw [List.length_map, List.length_take]; omega
        rw [hkl] at hkv
        subst hkv
        have HKL := Lib.hid hkl
        obtain ⟨vp, vc, hv⟩ := HX.out.shape
        generalize hL : (refsL (lets bl ++ lets (bp.take j)) 0).length = L at hv
        subst hv
        have HL := Lib.hid hL
        clear hL hkl
        by_cases hlt2 : j < bp.length
        · obtain ⟨bb, bo, rfl, hbc0⟩ := HB.out j hlt2
          have hbc := HRF.out.u.cell hbc0 (by simp)
          have b3 := HRF.out.cells.2.2.2
          have hz3 := froz_of HRF.out.m 3
          generalize hx : bp.getD j false = x at hbc hbc0
          have HXB := Lib.hid hx
          have HBC := Lib.hid hbc0
          have HZL : Hid (b < wo.heap.size) := lt_of_heap HRF.out.m
          have HROW : Hid (∀ w5, Upd [] wo w5 → ∀ o, (w5.alloc o).ownsRow (b + 1) 27 4 (.slice kp j kc) j (xcells ((bp.take j).map pushI))) := fun w5 hu o => by
            have h9 := (HRF.out.c.upd hu).upd ((Upd.refl [] w5).alloc o)
            unfold OwnX at h9
            rwa [HKL.out] at h9
          have HARR : Hid (∀ w5 : World, ∀ j u, (xcells [pushI x])[j]? = some u → (w5.alloc (.cells #[.int .i64 (pushI x).op, .int .i64 0, .int .i64 0, .int .i64 (pushI x).n] 27)).cell? ((⟨w5.heap.size, 0, none⟩ : Addr).add j) = some u) := fun w5 j u hu => by
            rw [Addr.add_lit, Nat.zero_add, cell_of (heap_alloc_new w5 _)]
            cases x
            · show ((xcells [pushI false]).toArray)[j]? = some u
              rw [List.getElem?_toArray]; exact hu
            · show ((xcells [pushI true]).toArray)[j]? = some u
              rw [List.getElem?_toArray]; exact hu
          have HT1 : Hid ((bp.take (j + 1)).map pushI = (bp.take j).map pushI ++ [pushI x]) := by
            show _ = _
            rw [take_last bp j hlt2, List.map_append, HXB.out]; rfl
          clear hx hbc0
          go_upto_region 16 with fail
          have hbcd := (Upd.refl [] wo).drew.cell hbc (by simp)
          have b3d := (Upd.refl [] wo).drew.cell b3 (by simp)
          go_cut [] from 59 to 68 (fun wx => ∃ (g c' : Nat), Hid (RfAt w wx b ⟨#[]⟩ (bs (lets bl)) ⟨#[]⟩ (.slice (some ⟨g, 0, none⟩) (j + 1) c') ((bp.take j).map pushI ++ [pushI x])) ∧ Hid (OwnI wx (b + 1) 3 (.slice vp L vc) (refsL (lets bl ++ lets (bp.take j)) 0)))
          case first =>
            refine wp_region_noPanic ?_
            refine wp_region_held_drew (S := fun w' => w'.cell? ⟨bb, bo + j, none⟩ = some (.bool x)) (by kernel_rfl) ?_ (fun hHeld => ?_)
            · first | exact hbcd | exact hbc | exact hk0 | exact hk1 _ | exact hk2 | exact hk3
            refine wpAnyH_take (i := 0) (oi := ?_) (v := ?_) ?_ (by kernel_rfl) (by kernel_rfl) (by kernel_rfl) (fun _ _ _ h => h) (Or.inl ⟨?_, ?_⟩) hHeld ?_
            rotate_left 2
            · simp only [List.getElem?_toArray, List.getElem?_cons_zero]; rfl
            · rfl
            · intro _ hSw; (try dsimp only at hSw); go_simp <;> with_reducible rfl
            (try simp only [Act.put, List.setIfInBounds_toArray, List.set_cons_zero, List.set_cons_succ])
            refine wpAnyH_take (i := 2) (oi := ?_) (v := ?_) ?_ (by kernel_rfl) (by kernel_rfl) (by kernel_rfl) (fun _ _ _ h => h) (Or.inl ⟨?_, ?_⟩) hHeld ?_
            rotate_left 2
            · simp only [List.getElem?_toArray, List.getElem?_cons_zero, List.getElem?_cons_succ]; rfl
            · rfl
            · intro _ hSw; (try dsimp only at hSw); go_simp <;> with_reducible rfl
            (try simp only [Act.put, List.setIfInBounds_toArray, List.set_cons_zero, List.set_cons_succ])
            refine wpAnyH_take (i := 3) (oi := ?_) (v := ?_) ?_ (by kernel_rfl) (by kernel_rfl) (by kernel_rfl) (fun _ _ _ h => h) (Or.inl ⟨?_, ?_⟩) hHeld ?_
            rotate_left 2
            · simp only [List.getElem?_toArray, List.getElem?_cons_zero, List.getElem?_cons_succ]; rfl
            · rfl
            · intro _ hSw; (try dsimp only at hSw); go_simp <;> with_reducible rfl
            (try simp only [Act.put, List.setIfInBounds_toArray, List.set_cons_zero, List.set_cons_succ])
            refine wpAnyH_take (i := 4) (oi := ?_) (v := ?_) ?_ (by kernel_rfl) (by kernel_rfl) (by kernel_rfl) (fun _ _ _ h => h) (Or.inl ⟨?_, ?_⟩) hHeld ?_
            rotate_left 2
            · simp only [List.getElem?_toArray, List.getElem?_cons_zero, List.getElem?_cons_succ]; rfl
            · rfl
            · intro _ hSw; (try dsimp only at hSw); go_simp <;> with_reducible rfl
            (try simp only [Act.put, List.setIfInBounds_toArray, List.set_cons_zero, List.set_cons_succ])
            refine wpAnyH_take (i := 5) (oi := ?_) (v := ?_) ?_ (by kernel_rfl) (by kernel_rfl) (by kernel_rfl) (fun _ _ _ h => h) (Or.inl ⟨?_, ?_⟩) hHeld ?_
            rotate_left 2
            · simp only [List.getElem?_toArray, List.getElem?_cons_zero, List.getElem?_cons_succ]; rfl
            · rfl
            · intro _ hSw; (try dsimp only at hSw); go_simp <;> with_reducible rfl
            (try simp only [Act.put, List.setIfInBounds_toArray, List.set_cons_zero, List.set_cons_succ])
            refine wpAnyH_ready (rs := [1, 6]) (by kernel_rfl) (by simp) ?_
            refine (AllReadyH.cons (o := ?o1) ?ho1 (fun K hK => ?w1) (AllReadyH.cons (o := ?o6) ?ho6 (fun K hK => ?w6) AllReadyH.nil))
            case ho1 => (simp only [List.getElem?_toArray, List.getElem?_cons_zero, List.getElem?_cons_succ]; rfl)
            case ho6 => (simp only [List.getElem?_toArray, List.getElem?_cons_zero, List.getElem?_cons_succ]; rfl)
            case' w1 =>
              clear hHeld
              go_simp
              refine hK.out _ _ ?_ (fun hHeld => ?_)
              · first | exact hbcd | exact hbc | exact hk0 | exact hk1 _ | exact hk2 | exact hk3
              clear hK K
              (try simp only [Act.put, List.setIfInBounds_toArray, List.set_cons_zero, List.set_cons_succ])
              refine wpAnyH_ready (rs := [6]) (by kernel_rfl) (by simp) ?_
              refine AllReadyH.cons (o := ?_) ?_ (fun K hK => ?_) AllReadyH.nil
              rotate_left 1
              · simp only [List.getElem?_toArray, List.getElem?_cons_zero, List.getElem?_cons_succ]; rfl
              clear hHeld
              go_simp
              (go_at_call 12; refine (func2_any x _).mono ?_; rintro e w5 ⟨rfl, hu5⟩; have hud := (Upd.refl [] wo).drew.trans hu5; have hk0 := hud.cell hbc (by simp); have hb5 := hud.cell b3 (by simp); have hk1 := (fun o => ((Upd.refl [] w5).alloc o).cell hk0 (by simp)); have hb6 := (fun o => ((Upd.refl [] w5).alloc o).cell hb5 (by simp)))
              try go_wp2_with fail
              refine hK.out _ _ ?_ (fun hHeld => ?_)
              · first | exact hbcd | exact hbc | exact hk0 | exact hk1 _ | exact hk2 | exact hk3
              clear hK K
              (try simp only [Act.put, List.setIfInBounds_toArray, List.set_cons_zero, List.set_cons_succ])
              refine wpAnyH_ready (rs := [7]) (by kernel_rfl) (by simp) ?_
              refine AllReadyH.cons (o := ?_) ?_ (fun K hK => ?_) AllReadyH.nil
              rotate_left 1
              · simp only [List.getElem?_toArray, List.getElem?_cons_zero, List.getElem?_cons_succ]; rfl
              clear hHeld
              go_simp
              refine hK.out _ _ ?_ (fun hHeld => ?_)
              · first | exact hbcd | exact hbc | exact hk0 | exact hk1 _ | exact hk2 | exact hk3
              clear hK K
              (try simp only [Act.put, List.setIfInBounds_toArray, List.set_cons_zero, List.set_cons_succ])
            case' w6 =>
              clear hHeld
              go_simp
              (go_at_call 12; refine (func2_any x _).mono ?_; rintro e w5 ⟨rfl, hu5⟩; have hud := (Upd.refl [] wo).drew.trans hu5; have hk0 := hud.cell hbc (by simp); have hb5 := hud.cell b3 (by simp); have hk1 := (fun o => ((Upd.refl [] w5).alloc o).cell hk0 (by simp)); have hb6 := (fun o => ((Upd.refl [] w5).alloc o).cell hb5 (by simp)))
              try go_wp2_with fail
              refine hK.out _ _ ?_ (fun hHeld => ?_)
              · first | exact hbcd | exact hbc | exact hk0 | exact hk1 _ | exact hk2 | exact hk3
              clear hK K
              (try simp only [Act.put, List.setIfInBounds_toArray, List.set_cons_zero, List.set_cons_succ])
              refine wpAnyH_ready (rs := [1, 7]) (by kernel_rfl) (by simp) ?_
              refine (AllReadyH.cons (o := ?o1_2) ?ho1_2 (fun K hK => ?w1_2) (AllReadyH.cons (o := ?o7_2) ?ho7_2 (fun K hK => ?w7_2) AllReadyH.nil))
              case ho1_2 => (simp only [List.getElem?_toArray, List.getElem?_cons_zero, List.getElem?_cons_succ]; rfl)
              case ho7_2 => (simp only [List.getElem?_toArray, List.getElem?_cons_zero, List.getElem?_cons_succ]; rfl)
              case' w1_2 =>
                clear hHeld
                go_simp
                refine hK.out _ _ ?_ (fun hHeld => ?_)
                · first | exact hbcd | exact hbc | exact hk0 | exact hk1 _ | exact hk2 | exact hk3
                clear hK K
                (try simp only [Act.put, List.setIfInBounds_toArray, List.set_cons_zero, List.set_cons_succ])
                refine wpAnyH_ready (rs := [7]) (by kernel_rfl) (by simp) ?_
                refine AllReadyH.cons (o := ?_) ?_ (fun K hK => ?_) AllReadyH.nil
                rotate_left 1
                · simp only [List.getElem?_toArray, List.getElem?_cons_zero, List.getElem?_cons_succ]; rfl
                clear hHeld
                go_simp
                refine hK.out _ _ ?_ (fun hHeld => ?_)
                · first | exact hbcd | exact hbc | exact hk0 | exact hk1 _ | exact hk2 | exact hk3
                clear hK K
                (try simp only [Act.put, List.setIfInBounds_toArray, List.set_cons_zero, List.set_cons_succ])
              case' w7_2 =>
                clear hHeld
                go_simp
                refine hK.out _ _ ?_ (fun hHeld => ?_)
                · first | exact hbcd | exact hbc | exact hk0 | exact hk1 _ | exact hk2 | exact hk3
                clear hK K
                (try simp only [Act.put, List.setIfInBounds_toArray, List.set_cons_zero, List.set_cons_succ])
                refine wpAnyH_ready (rs := [1]) (by kernel_rfl) (by simp) ?_
                refine AllReadyH.cons (o := ?_) ?_ (fun K hK => ?_) AllReadyH.nil
                rotate_left 1
                · simp only [List.getElem?_toArray, List.getElem?_cons_zero, List.getElem?_cons_succ]; rfl
                clear hHeld
                go_simp
                refine hK.out _ _ ?_ (fun hHeld => ?_)
                · first | exact hbcd | exact hbc | exact hk0 | exact hk1 _ | exact hk2 | exact hk3
                clear hK K
                (try simp only [Act.put, List.setIfInBounds_toArray, List.set_cons_zero, List.set_cons_succ])
            all_goals
              refine wpAnyH_ready (rs := [8]) (by kernel_rfl) (by simp) ?_
              refine AllReadyH.cons (o := ?_) ?_ (fun K hK => ?_) AllReadyH.nil
              rotate_left 1
              · simp only [List.getElem?_toArray, List.getElem?_cons_zero, List.getElem?_cons_succ]; rfl
              clear hHeld
              (refine step_append_own_at rfl (.tmp 60) (.tmp 66) 37 rfl (b + 1) 27 i0 _ 4 32 Tryd.underlying37 HI.out HZ0.out HZ1.out HZ2.out rfl (by decide) (.slice kp j kc) j (xcells ((bp.take j).map pushI)) rfl (HROW.out w5 hud _) ⟨w5.heap.size, 0, none⟩ 1 1 (xcells [pushI x]) rfl rfl (HARR.out w5) (xcells_one _) (by unfold maxLen; omega) (by omega) (by have := hud.size; have := HZL.out; simp; omega) ?_; intro v' w7 hown' hgrow hat; obtain ⟨⟨g, c', rfl⟩, hb7, hz7, hu7, hub, hrf⟩ := (HRF.out.upd (hud.alloc (.cells #[.int .i64 (pushI x).op, .int .i64 0, .int .i64 0, .int .i64 (pushI x).n] 27))).push (ys := [pushI x]) (n := j + 1) (by rw [HKL.out]; rfl) (by omega) hown' hgrow; have hk2 := hu7.cell HBC.out (by simp); have hk3 := hrf.u.cell HBC.out (by simp))
              refine hK.out _ _ ?_ (fun hHeld => ?_)
              · first | exact hbcd | exact hbc | exact hk0 | exact hk1 _ | exact hk2 | exact hk3
              clear hK K
              (try simp only [Act.put, List.setIfInBounds_toArray, List.set_cons_zero, List.set_cons_succ])
              refine wpAnyH_take (i := 9) (oi := ?_) (v := ?_) ?_ (by kernel_rfl) (by kernel_rfl) (by kernel_rfl) (fun _ _ _ h => h) (Or.inl ⟨?_, ?_⟩) hHeld ?_
              rotate_left 2
              · simp only [List.getElem?_toArray, List.getElem?_cons_zero, List.getElem?_cons_succ]; rfl
              · rfl
              · intro _ hSw; (try dsimp only at hSw); go_simp <;> with_reducible rfl
              (try simp only [Act.put, List.setIfInBounds_toArray, List.set_cons_zero, List.set_cons_succ])
              refine wpAnyH_ready (rs := [10]) (by kernel_rfl) (by simp) ?_
              refine AllReadyH.cons (o := ?_) ?_ (fun K hK => ?_) AllReadyH.nil
              rotate_left 1
              · simp only [List.getElem?_toArray, List.getElem?_cons_zero, List.getElem?_cons_succ]; rfl
              clear hHeld
              go_simp
              refine hK.out _ _ ?_ (fun hHeld => ?_)
              · first | exact hbcd | exact hbc | exact hk0 | exact hk1 _ | exact hk2 | exact hk3
              clear hK K
              (try simp only [Act.put, List.setIfInBounds_toArray, List.set_cons_zero, List.set_cons_succ])
              refine wpAnyH_done (by kernel_rfl) ?_ _
              refine NoPanic.normal ?_
              have HRF7 := Lib.hid hrf
              have HX7 := Lib.hid (HRF.out.upd2 HX.out (hud.alloc (.cells #[.int .i64 (pushI x).op, .int .i64 0, .int .i64 0, .int .i64 (pushI x).n] 27)) hub)
              clear hbcd b3d hk0 hk1 hk2 hk3 hb5 hb6 hb7 hz7 hu7 hub hrf hown' hgrow hat hu5 hud
              go_wp2_with fail
              go_meet
              exact ⟨g, c', HRF7.out, HX7.out⟩
          case rest =>
            obtain ⟨g, c', HRF, HX⟩ := hcut
            obtain ⟨wk, rfl⟩ : ∃ w' : World, w' = wc := ⟨_, rfl⟩
            clear hbc b3 hz3 hbcd b3d HROW HARR HKL HZL
            rw [← HT1.out] at HRF
            have hbc := HRF.out.u.cell HBC.out (by simp)
            have HW2 : Hid (refsL (lets bl ++ lets (bp.take (j + 1))) 0 = refsL (lets bl ++ lets (bp.take j)) 0 ++ if x = true then [((bl.length : Int) + (j : Int))] else []) := by
              show _ = _
              rw [lets_snoc bp j hlt2, ← List.append_assoc, refsL_snoc, List.length_append, lets_len, lets_len, List.length_take, Nat.min_eq_left (by omega), HXB.out]
              cases x <;> simp [lR, lI]
            have HLL : Hid (L ≤ 24) := by
              show L ≤ 24
              rw [← HL.out]
              refine Nat.le_trans (refsL_le _ _) ?_
              rw [List.length_append, lets_len, lets_len, List.length_take]; omega
            cases x with
            | false =>
              have hw2 := HW2.out
              rw [if_neg (by simp), List.append_nil] at hw2
              have HW3 := Lib.hid hw2
              clear hw2 HW2
              go_wp2_with fail
              go_roundw
              case rel => exact ⟨j + 1, _, by omega, by go_num, HRF.out, by rw [HW3.out]; exact HX.out⟩
              case measure => simp [intOf]; omega
            | true =>
              go_wp2_with (at_builtin; refine stop_here ?_)
              refine Hid.mk ?_
              have hrow : (wk.alloc (.cells #[.int .i64 ((bl.length : Int) + (j : Int))] 3)).ownsRow (b + 1) 3 1 (.slice vp L vc) L ((refsL (lets bl ++ lets (bp.take j)) 0).map (Value.int .i64)) := by
                have h := row_upd HX.out ((Upd.refl [] wk).alloc (.cells #[.int .i64 ((bl.length : Int) + (j : Int))] 3)) (by simp)
                rwa [HL.out] at h
              have hsz := lt_of_heap HRF.out.m
              have hLl := HLL.out
              refine (wpList_append_src rfl _ _ 40 rfl (b + 1) 3 j0 _ 1 8 Tryd.underlying40 HJ.out HY0.out HY1.out HY2.out rfl (by decide) _ _ _ rfl hrow _ 1 ([(bl.length : Int) + (j : Int)].map (Value.int .i64)) rfl (.inr ⟨_, _, rfl, fun jj u hu => by
                rw [Addr.add_lit, Nat.zero_add, cell_of (heap_alloc_new wk _)]
                show (([(bl.length : Int) + (j : Int)].map (Value.int .i64)).toArray)[jj]? = some u
                rw [List.getElem?_toArray]
                exact hu⟩) rfl (oneI _) (by unfold maxLen; omega) (by omega) (by simp; omega) ?_)
              intro v' w7 hown hgr _
              have hown2 : w7.ownsRow (b + 1) 3 1 v' ((refsL (lets bl ++ lets (bp.take j)) 0).length + 1) ((refsL (lets bl ++ lets (bp.take j)) 0).map (Value.int .i64) ++ [.int .i64 ((bl.length : Int) + (j : Int))]) := by rw [HL.out]; exact hown
              obtain ⟨hP, hW, hBk⟩ := HX.out.push hown2 hgr
              have hw2 := HW2.out
              rw [if_pos trivial] at hw2
              rw [← hw2] at hP
              have HP := Lib.hid hP
              have HR7 := Lib.hid (HRF.out.keep hW (fun i hi => ⟨(hBk i hi).1, fun e => own_ne HRF.out.c HX.out (by decide) i e (Option.mem_toList.1 hi)⟩))
              clear hP hW hBk hown hown2 hgr hrow hsz hw2
              go_wp2_with fail
              go_roundw
              case rel => exact ⟨j + 1, _, by omega, by go_num, HR7.out, HP.out⟩
              case measure => simp [intOf]; omega
        · obtain rfl : j = bp.length := by omega
          have hm3 := HRF.out
          rw [List.take_length] at hm3
          have hx3 := HX.out
          rw [List.take_length] at hx3
          have HR3 := Lib.hid hm3
          have HX3 := Lib.hid hx3
          have b3 := HR3.out.cells.2.2.2
          clear hm3 hx3 HRF HX HKL
          have HLW : Hid (L ≤ 24) := by
            show L ≤ 24
            rw [← HL.out]
            refine Nat.le_trans (refsL_le _ _) ?_
            rw [List.length_append, lets_len, lets_len, List.length_take]; omega
          have HLE : Hid ((refsL (lets bl ++ lets bp) 0).length = L) := by
            have h9 := HL.out
            rwa [List.take_length] at h9
          clear HL
          go_wp2_with fail
          clear b3
          go_loopw [11] (fun iv wr => ∃ (i : Nat) (kv : Value), i ≤ bp.length ∧ iv = .int .i64 i ∧ Hid (RfAt w wr b ⟨#[]⟩ (bs (lets bl)) ⟨#[]⟩ kv (bp.map pushI ++ List.replicate i ⟨6, 0, 0, 0⟩)) ∧ Hid (OwnI wr (b + 1) 3 (.slice vp L vc) (refsL (lets bl ++ lets bp) 0))) (fun iv _ => bp.length - (intOf iv).toNat)
          case atStart => exact ⟨0, _, by omega, rfl, by show RfAt _ _ _ _ _ _ _ (_ ++ []); rw [List.append_nil]; exact HR3.out, HX3.out⟩
          case round =>
            clear HR3 HX3
            obtain ⟨i, kv, hi, rfl, HR, HX⟩ := hrel
            obtain ⟨wo, rfl⟩ : ∃ wo : World, wo = wr := ⟨_, rfl⟩
            by_cases hlt3 : i < bp.length
            · as_aux_lemma =>
              obtain ⟨kp, kc, hkv⟩ := HR.out.c.shape
              have hkl : (bp.map pushI ++ List.replicate i (⟨6, 0, 0, 0⟩ : Ins)).length = bp.length + i := by simp
              rw [hkl] at hkv
              subst hkv
              have HKL := Lib.hid hkl
              clear hkl
              have b3 := HR.out.cells.2.2.2
              have hz3 := froz_of HR.out.m 3
              go_wp2_with (at_builtin; refine stop_here ?_)
              refine Hid.mk ?_
              have hup := (Upd.refl [] wo).alloc (.cells #[.int .i64 6, .int .i64 0, .int .i64 0, .int .i64 0] 27)
              have hrow : (wo.alloc (.cells #[.int .i64 6, .int .i64 0, .int .i64 0, .int .i64 0] 27)).ownsRow (b + 1) 27 4 (.slice kp (bp.length + i) kc) (bp.length + i) (xcells (bp.map pushI ++ List.replicate i (⟨6, 0, 0, 0⟩ : Ins))) := by
                have h9 := HR.out.c.upd hup
                unfold OwnX at h9
                rwa [HKL.out] at h9
              have hsz := lt_of_heap HR.out.m
              refine (wpList_append_src rfl _ _ 37 rfl (b + 1) 27 i0 _ 4 32 Tryd.underlying37 HI.out HZ0.out HZ1.out HZ2.out rfl (by decide) _ _ _ rfl hrow _ 1 (xcells [⟨6, 0, 0, 0⟩]) rfl (.inr ⟨_, _, rfl, fun jj u hu => by
                rw [Addr.add_lit, Nat.zero_add, cell_of (heap_alloc_new wo _)]
                show ((xcells [⟨6, 0, 0, 0⟩]).toArray)[jj]? = some u
                rw [List.getElem?_toArray]
                exact hu⟩) rfl (xcells_one _) (by unfold maxLen; omega) (by omega) (by simp; omega) ?_)
              intro v' w7 hown hgr _
              obtain ⟨⟨g, c', rfl⟩, hb7, hz7, hu7, hub, hrf⟩ := (HR.out.upd hup).push (ys := [⟨6, 0, 0, 0⟩]) (n := bp.length + i + 1) (by rw [HKL.out]; rfl) (by omega) hown hgr
              have HR7 := Lib.hid hrf
              have HX7 := Lib.hid (HR.out.upd2 HX.out hup hub)
              clear hown hgr hrow hsz hup hu7 hub hrf b3 hz3
              have HRN : Hid (RfAt w (w7.setCell ⟨b, 3, none⟩ (.slice (some ⟨g, 0, none⟩) (bp.length + i + 1) c')) b ⟨#[]⟩ (bs (lets bl)) ⟨#[]⟩ (.slice (some ⟨g, 0, none⟩) (bp.length + i + 1) c') (bp.map pushI ++ List.replicate (i + 1) ⟨6, 0, 0, 0⟩)) := by
                have h9 := HR7.out
                rw [List.append_assoc, ← List.replicate_succ'] at h9
                exact h9
              clear HR7
              go_wp2_with fail
              go_roundw
              case rel => exact ⟨i + 1, _, by omega, by go_num, HRN.out, HX7.out⟩
              case measure => simp [intOf]; omega
            · obtain rfl : i = bp.length := by omega
              obtain ⟨kp, kc, hkv⟩ := HR.out.c.shape
              have hkl : (bp.map pushI ++ List.replicate bp.length (⟨6, 0, 0, 0⟩ : Ins)).length = bp.length + bp.length := by simp
              rw [hkl] at hkv
              subst hkv
              have HKL := Lib.hid hkl
              clear hkl
              have b3 := HR.out.cells.2.2.2
              have hz3 := froz_of HR.out.m 3
              go_wp2_with (at_builtin; refine stop_here ?_)
              refine Hid.mk ?_
              have hup := (Upd.refl [] wo).alloc (.cells #[.int .i64 33, .int .i64 0, .int .i64 0, .int .i64 0] 27)
              have hrow : (wo.alloc (.cells #[.int .i64 33, .int .i64 0, .int .i64 0, .int .i64 0] 27)).ownsRow (b + 1) 27 4 (.slice kp (bp.length + bp.length) kc) (bp.length + bp.length) (xcells (bp.map pushI ++ List.replicate bp.length (⟨6, 0, 0, 0⟩ : Ins))) := by
                have h9 := HR.out.c.upd hup
                unfold OwnX at h9
                rwa [HKL.out] at h9
              have hsz := lt_of_heap HR.out.m
              refine (wpList_append_src rfl _ _ 37 rfl (b + 1) 27 i0 _ 4 32 Tryd.underlying37 HI.out HZ0.out HZ1.out HZ2.out rfl (by decide) _ _ _ rfl hrow _ 1 (xcells [⟨33, 0, 0, 0⟩]) rfl (.inr ⟨_, _, rfl, fun jj u hu => by
                rw [Addr.add_lit, Nat.zero_add, cell_of (heap_alloc_new wo _)]
                show ((xcells [⟨33, 0, 0, 0⟩]).toArray)[jj]? = some u
                rw [List.getElem?_toArray]
                exact hu⟩) rfl (xcells_one _) (by unfold maxLen; omega) (by omega) (by simp; omega) ?_)
              intro v' w7 hown hgr _
              obtain ⟨⟨g, c', rfl⟩, hb7, hz7, hu7, hub, hrf⟩ := (HR.out.upd hup).push (ys := [⟨33, 0, 0, 0⟩]) (n := bp.length + bp.length + 1) (by rw [HKL.out]; rfl) (by omega) hown hgr
              have HR7 := Lib.hid hrf
              have HX7 := Lib.hid (HR.out.upd2 HX.out hup hub)
              clear hown hgr hrow hsz hup hu7 hub hrf b3 hz3
              have HRN : Hid (RfAt w (w7.setCell ⟨b, 3, none⟩ (.slice (some ⟨g, 0, none⟩) (bp.length + bp.length + 1) c')) b ⟨#[]⟩ (bs (lets bl)) ⟨#[]⟩ (.slice (some ⟨g, 0, none⟩) (bp.length + bp.length + 1) c') (refC bp)) := HR7.out
              clear HR7 HR HX HKL
              go_upto_region 25 with fail
              generalize w7.setCell ⟨b, 3, none⟩ (.slice (some ⟨g, 0, none⟩) (bp.length + bp.length + 1) c') = w8 at HRN HX7 ⊢
              have hcd := HRN.out.c.code (easy_small (refC_easy bp))
              have hbz : (bs (lets bl)).size = bl.length := by rw [bs_size, lets_len]
              have HWITH := Lib.hid (with_any (refM bl bp) (.slice (some ⟨g, 0, none⟩) (bp.length + bp.length + 1) c') w8 hcd ⟨Nat.zero_le _, by show (bs (lets bl)).size ≤ maxLen; unfold maxLen; omega, Nat.zero_le _⟩)
              rw [show (refM bl bp).params = ⟨#[]⟩ from rfl, show (refM bl bp).locals = bs (lets bl) from rfl, show (refM bl bp).ret = ⟨#[]⟩ from rfl] at HWITH
              have HOKM := Lib.hid (refM_ok bl bp (by omega) (by omega))
              obtain ⟨m0, m1, m2, m3⟩ := HRN.out.cells
              clear hcd hbz
              go_wp2_with fail
              refine HWITH.out.mono ?_
              rintro e w9 ⟨cv, mv, rfl, hc9, hm9, hu9⟩
              have HR9 := Lib.hid (HRN.out.upd hu9)
              have HX9 := Lib.hid (OwnI.upd HX7.out hu9 (by simp))
              have HOF := Lib.hid (ofV_any (withM (refM bl bp)) cv mv E w9 (HS.out.upd HR9.out.u) hc9 hm9)
              clear hc9 hm9 hu9 HWITH HRN HX7 m0 m1 m2 m3
              go_wp2_with fail
              refine HOF.out.mono ?_
              rintro e wA ⟨v9, rfl, hend⟩
              obtain ⟨ib, ss, hsl, hlk, rfl, hin, hib, hu10⟩ := hend.good HOKM.out (refM_all bl bp (by omega))
              have HRA := Lib.hid (HR9.out.upd hu10)
              have HXA := Lib.hid (OwnI.upd HX9.out hu10 (by simp))
              have hs1 : ss.getD 1 default = strS (2 * bp.length + 1) (refS bp) (2 * bp.length + 1) (2 * bp.length) := by
                have h1 := hlk 1 (by show 1 < 2; omega)
                have h2 := ref_ok bp (by omega) (withM (refM bl bp)) (refM bl bp) rfl rfl
                have h3 : lookM (withM (refM bl bp)) (refM bl bp) = .ok (ss.getD 1 default) := h1
                rw [h2] at h3
                injection h3 with h3
                exact h3.symm
              have HIN := Lib.hid hin
              have HS1 := Lib.hid hs1
              have HSL := Lib.hid hsl
              have hHX9 : w9.heap.size ≤ ib := hib
              have HXT : Hid (∀ k, (Value.slice vp L vc).ownBlock = some k → k < w9.heap.size) := fun k hk => (World.ownsRow.lt HX9.out k hk).2
              have HBL : Hid (b < w9.heap.size) := lt_of_heap HR9.out.m
              have HIBW : Hid (ib < wA.heap.size) := by obtain ⟨_, _, _, hb, _⟩ := hin; exact lt_of_heap hb
              clear hend hsl hlk hin hib hu10 HOF HR9 HX9 hs1
              have hll : (lets bl ++ lets bp).length ≤ 24 := by rw [List.length_append, lets_len, lets_len]; omega
              have hbz : (bs (lets bl)).size = bl.length := by rw [bs_size, lets_len]
              have HREF : Hid (∀ (n : Int) (w' : World), InfoAt w' ib (withM (refM bl bp)) ss n → 0 ≤ n → n ≤ 100 → Calls Tryd.prog 14 #[.pointer (some ⟨ib, 0, none⟩), .int .i64 1, .int .i64 (bp.length : Int)] w' fun e w'' => ∃ u, e = .returned u ∧ OwnI w'' w'.heap.size 3 u (refsL (lets bl ++ lets bp) 0) ∧ InfoAs w' w'' ib (withM (refM bl bp)) ss n ∧ Upd [ib] w' w'') := fun n w' hI h0 h1 =>
                refs_in2 ib (withM (refM bl bp)) ss n 1 bp.length w' hI HSL.out (by show 1 < 2; omega) (by show (refM bl bp).code.length ≤ 1000; rw [refM_len]; omega) h0 (by omega) (by show bp.length < (refM bl bp).code.length; rw [refM_len]; omega) (by rw [HS1.out]; exact ref_seen _ _) (lets bl ++ lets bp) (by show kindsL (refM bl bp) ++ _ = _; rw [HS1.out, ref_mid, refM_kinds]) (by omega) (lets_asc bl bp) (by show (0 : Nat) ≤ _; omega) (by show (bs (lets bl)).size ≤ _; omega)
              have HOUT : Hid (∀ (n : Int) (w' : World), InfoAt w' ib (withM (refM bl bp)) ss n → 0 ≤ n → n ≤ 100 → Calls Tryd.prog 14 #[.pointer (some ⟨ib, 0, none⟩), .int .i64 1, .int .i64 (((bp.length + bp.length + 1 : Nat)) : Int)] w' fun e w'' => e = .returned (.slice none 0 0) ∧ InfoAt w'' ib (withM (refM bl bp)) ss (n + 1) ∧ Upd [ib] w' w'') := fun n w' hI h0 h1 =>
                refs_out ib (withM (refM bl bp)) ss n 1 ((bp.length + bp.length + 1 : Nat) : Int) w' hI HSL.out (by show 1 < 2; omega) (by show (refM bl bp).code.length ≤ 1000; rw [refM_len]; omega) h0 (by omega) (by
                  rintro ⟨_, h2, _⟩
                  have h3 : (((bp.length + bp.length + 1 : Nat)) : Int) < ((refM bl bp).code.length : Int) := h2
                  rw [refM_len] at h3
                  omega)
              clear hll hbz
              go_wp2_with fail
              refine (HREF.out 0 wA HIN.out (by omega) (by omega)).mono ?_
              rintro e wB ⟨u, rfl, hou, has, huB⟩
              obtain ⟨pu, cu, hue⟩ := hou.shape
              rw [HLE.out] at hue
              subst hue
              have HAS := Lib.hid has
              have HUB := Lib.hid huB
              have HOU := Lib.hid hou
              clear hou has huB
              have hL24 := HLW.out
              have hLE : (refsL (lets bl ++ lets bp) 0).length = L := HLE.out
              go_wp2_with fail
              clear hLE
              go_loopw [15] (fun iv wr => ∃ (i : Nat) (ys : List Int), i ≤ L ∧ iv = .int .i64 i ∧ Hid (ys.length = L) ∧ Hid (OwnI wr wA.heap.size 3 (.slice pu L cu) ys) ∧ Hid (Upd (Value.slice pu L cu).ownBlock.toList wB wr)) (fun iv _ => L - (intOf iv).toNat)
              case atStart => exact ⟨0, _, by omega, rfl, HLE.out, HOU.out, Upd.refl _ _⟩
              case round =>
                obtain ⟨i, ys, hi, rfl, HYL, HOY, HUY⟩ := hrel
                obtain ⟨wo, rfl⟩ : ∃ wo : World, wo = wr := ⟨_, rfl⟩
                by_cases hlt4 : i < L
                · as_aux_lemma =>
                  have hyl := HYL.out
                  rcases HOY.out.2 with ⟨h1, h2⟩ | ⟨gu, cap, cur, h1, h2, h3, _⟩
                  · have : ys.length = 0 := h2
                    omega
                  injection h1 with e1 e2 e3
                  subst e1
                  have hcy : wo.cell? ⟨gu, i, none⟩ = some (.int .i64 (ys.getD i 0)) := by
                    have := HOY.out.cells (g := gu) rfl i (.int .i64 (ys.getD i 0)) (by
                      rw [List.getElem?_map, List.getD_eq_getElem?_getD, List.getElem?_eq_getElem (by omega)]; rfl)
                    rwa [Addr.add_lit, Nat.zero_add] at this
                  have hfz := froz_of h3 i
                  generalize ys.getD i 0 = y at hcy
                  clear e2 e3 h2 h3 hyl
                  go_wp2_with fail
                  go_roundw
                  case rel => exact ⟨i + 1, ys.set i _, by omega, by go_num, by show (ys.set i _).length = L; rw [List.length_set]; exact HYL.out, OwnI.setj HYL.out HOY.out i _, HUY.out.setCell (.inl (by simp [Value.ownBlock])) _⟩
                  case measure => simp [intOf]; omega
                · obtain rfl : i = L := by omega
                  have hT : ∀ k ∈ (Value.slice pu i cu).ownBlock.toList, wA.heap.size ≤ k := fun k hk => (World.ownsRow.lt HOY.out k (Option.mem_toList.1 hk)).1
                  have hibw := HIBW.out
                  have hibT : ib ∉ (Value.slice pu i cu).ownBlock.toList := fun hm => by have := hT _ hm; omega
                  have hUA : Upd [ib] wA wo := HUB.out.trans' HUY.out (fun k hk hlt => by have := hT k hk; omega)
                  have HIC := Lib.hid (HAS.out.keep HIN.out hUA HUY.out hibT)
                  have hbl := HBL.out
                  have hb3 := hUA.cell HRA.out.cells.2.2.2 (by simp; omega)
                  have HXC := Lib.hid (OwnI.upd HXA.out hUA (fun k hk hm => by have := HXT.out k hk; simp at hm; omega))
                  have HU := Lib.hid (HRA.out.u.trans' hUA (fun k hk hlt => by have := HRA.out.lo; simp at hk; omega))
                  clear hT hibT hUA HUB HUY HOU HOY HAS
                  go_wp2_with fail
                  refine (HREF.out 1 wo HIC.out (by omega) (by omega)).mono ?_
                  rintro e wD ⟨u2, rfl, hou2, has2, huD⟩
                  obtain ⟨pu2, cu2, hue2⟩ := hou2.shape
                  rw [HLE.out] at hue2
                  subst hue2
                  have HXD := Lib.hid (OwnI.upd HXC.out huD (fun k hk hm => by have := HXT.out k hk; simp at hm; omega))
                  have hb3 := huD.cell hb3 (by simp; omega)
                  have hl24 : (refsL (lets bl ++ lets bp) 0).length ≤ 24 := by rw [HLE.out]; exact HLW.out
                  obtain ⟨b1, hi1, _⟩ := OwnI.ints hou2
                  obtain ⟨b2, hi2, _⟩ := OwnI.ints HXD.out
                  have hsi := sints _ _ b1 b2 _ _ wD hi1 hi2 (by omega)
                  rw [decide_eq_true rfl] at hsi
                  have HSI := Lib.hid hsi
                  have HID := Lib.hid has2.at_
                  have HUD := Lib.hid (HU.out.trans' huD (fun k hk hlt => by have := HRA.out.lo; simp at hk; omega))
                  clear hou2 has2 huD hi1 hi2 hsi hl24
                  go_wp2_with fail
                  refine HSI.out.mono ?_
                  rintro e wE ⟨rfl, huE⟩
                  have hb3 := huE.cell hb3 (by simp)
                  have HIE := Lib.hid (HID.out.upd huE)
                  have HUE := Lib.hid (HUD.out.trans huE)
                  clear huE HSI HID HUD
                  go_wp2_with fail
                  refine (HOUT.out 2 wE HIE.out (by omega) (by omega)).mono ?_
                  rintro e wF ⟨rfl, _, huF⟩
                  have HUF := Lib.hid (HUE.out.trans' huF (fun k hk hlt => by have := HRA.out.lo; simp at hk; omega))
                  clear huF hb3
                  go_wp2_with fail
                  go_ret
                  exact ⟨rfl, HUF.out⟩
end Go.Proofs.YtpmfbhoochogoaaDoor
