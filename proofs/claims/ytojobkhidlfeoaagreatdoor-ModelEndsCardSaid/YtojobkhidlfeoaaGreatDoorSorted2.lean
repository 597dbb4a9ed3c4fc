/- overdriveref.Sorted: the walk. -/
import Derived.Test.YtojobkhidlfeoaaGreatDoorOwnI
namespace Go.Proofs.YtojobkhidlfeoaaGreatDoor
open Go.RowKit

set_option maxRecDepth 100000 in
set_option maxHeartbeats 2000000 in
theorem sorted_any (v : Value) (b : Nat) (xs : List Int) (w : World) (h : IntsV w v b xs) (hn : xs.length ≤ 100000) :
  Calls Tryz.prog 140 #[v] w fun e w' => ∃ u, e = .returned u ∧ OwnI w' w.heap.size 3 u (sortL xs) ∧ Upd [] w w' := by
 obtain ⟨p, c, rfl⟩ := h.form
 obtain ⟨i0, hi, hz0, hz1, hz2⟩ := info_parts Tryz.infoInt
 have HI := Lib.hid hi
 have HZ0 := Lib.hid hz0
 have HZ1 := Lib.hid hz1
 have HZ2 := Lib.hid hz2
 clear hi hz0 hz1 hz2
 go_enter Tryz.func140, Tryz.ntmps140
 go_wp2_with fail
 go_loopw [3, 4] (fun u i wr => ∃ k : Nat, k ≤ xs.length ∧ i = .int .i64 k ∧ OwnI wr w.heap.size 3 u (sortL (xs.take k)) ∧ Upd [] w wr) (fun _ i _ => xs.length - (intOf i).toNat)
 case atStart => exact ⟨0, by omega, rfl, OwnI.nil _ _ _, Upd.refl _ _⟩
 case round =>
  obtain ⟨k, hk, rfl, hout, hU⟩ := hrel
  by_cases hlt : k < xs.length
  ·obtain ⟨rfl, h2⟩ := sints_nth _ _ _ _ _ h k hlt
   have hx := hU.cell h2 (by simp)
   have HT := Lib.hid (sortL_take xs k hlt)
   have hlen : (sortL (xs.take k)).length ≤ k := Nat.le_trans (sortL_len _) (by simp; omega)
   generalize xs.getD k 0 = x at hx HT h2
   generalize sortL (xs.take k) = out at hout HT hlen
   obtain ⟨wo, rfl⟩ : ∃ wo : World, wo = wr := ⟨_, rfl⟩
   obtain ⟨po, co, rfl, hpo⟩ : ∃ po co, u3 = .slice po out.length co ∧ (∀ j, j < out.length → ∃ g, po = some ⟨g, 0, none⟩ ∧ wo.cell? ⟨g, j, none⟩ = some (.int .i64 (out.getD j 0))) := by
    rcases hout.form with ⟨h1, h2⟩ | ⟨g, c, h1, _, _, _, h5⟩
    ·exact ⟨none, 0, by rw [h1, h2]; rfl, by rw [h2]; simp⟩
    ·exact ⟨_, _, h1, fun j hj => ⟨g, rfl, h5 j hj⟩⟩
   have HPO := Lib.hid hpo
   have HO := Lib.hid hout
   have H2 := Lib.hid h2
   clear hout hpo h2
   have hN := lessN_le out x
   go_upto_block 2 with fail
   go_cut [5] (fun s wx => s = .int .i64 (lessN out x) ∧ Upd [] wo wx)
   case first =>
    go_wp2_with fail
    go_loopw [5] (fun q wr => ∃ j : Nat, j ≤ lessN out x ∧ q = .int .i64 j ∧ Upd [] wo wr) (fun q _ => lessN out x + 1 - (intOf q).toNat)
    case atStart => exact ⟨0, by omega, rfl, Upd.refl _ _⟩
    case round =>
     obtain ⟨j, hj, rfl, hU2⟩ := hrel
     have hx2 := hU2.cell hx (by simp)
     by_cases hjl : j < out.length
     ·obtain ⟨g, rfl, h4⟩ := HPO.out j hjl
      have hy := hU2.cell h4 (by simp)
      have HL := Lib.hid (fun h => lessN_lt out x j h)
      have HG := Lib.hid (fun h : j = lessN out x => h ▸ lessN_at out x (h ▸ hjl))
      clear h4
      generalize hgy : out.getD j 0 = y at hy HL HG
      have HGY := Lib.hid hgy
      clear hgy
      have d0 : decide ((j : Int) < (out.length : Int)) = true := by simp; omega
      have d0' : (j : Int) < (out.length : Int) := by omega
      have d0'' : (k : Int) < (xs.length : Int) := by omega
      by_cases hyx : y < x
      ·have hjs : j < lessN out x := by
        rcases Nat.lt_or_ge j (lessN out x) with h | h
        ·exact h
        ·have := HG.out (by omega); omega
       have hyb : decide (y < x) = true := by simpa using hyx
       go_wp2_with fail
       go_quiet (fail)
       go_wp2_with fail
       go_roundw
       case rel => exact ⟨j + 1, by omega, by go_num, hU2.drewN _⟩
       case measure => simp [intOf]; omega
      ·have hje : j = lessN out x := by
        rcases Nat.lt_or_ge j (lessN out x) with h | h
        ·exact absurd (HL.out h) hyx
        ·omega
       have hyb : decide (y < x) = false := by simpa using hyx
       have HJE := Lib.hid hje
       clear hje
       go_wp2_with fail
       go_quiet (fail)
       go_wp2_with fail
       go_meet
       exact ⟨by rw [HJE.out], hU2.drewN _⟩
     ·have hje : j = lessN out x := by omega
      have HJE := Lib.hid hje
      have d0 : decide ((j : Int) < (out.length : Int)) = false := by simp; omega
      clear hje
      go_wp2_with fail
      go_quiet (fail)
      go_wp2_with fail
      go_meet
      exact ⟨by rw [HJE.out], hU2.drewN _⟩
   case rest =>
    obtain ⟨rfl, hU2⟩ := hcut
    have hx2 := hU2.cell hx (by simp)
    clear hx
    by_cases heq : out[lessN out x]? = some x
    ·have hql : lessN out x < out.length := (List.getElem?_eq_some_iff.1 heq).1
     have HE := Lib.hid (show insL out x = out by unfold insL; rw [if_pos heq])
     obtain ⟨g, rfl, h4⟩ := HPO.out _ hql
     have hy := hU2.cell h4 (by simp)
     have hgd : out.getD (lessN out x) 0 = x := by rw [List.getD_eq_getElem?_getD, heq]; rfl
     rw [hgd] at hy
     clear heq hgd h4
     generalize lessN out x = q at *
     have d0 : decide ((q : Int) < (out.length : Int)) = true := by simp; omega
     have d0' : (q : Int) < (out.length : Int) := by omega
     have d0'' : (k : Int) < (xs.length : Int) := by omega
     go_wp2_with fail
     go_quiet (fail)
     go_wp2_with fail
     go_roundw
     case rel =>
      refine ⟨k + 1, by omega, by go_num, ?_, (hU.trans hU2).drewN _⟩
      rw [HT.out, HE.out]
      exact HO.out.upd (hU2.drewN _) (by simp)
     case measure => simp [intOf]; omega
    ·have HE := Lib.hid (show insL out x = out.take (lessN out x) ++ [x] ++ out.drop (lessN out x) by unfold insL; rw [if_neg heq])
     have hne : ∀ hql : lessN out x < out.length, out.getD (lessN out x) 0 ≠ x := fun hql e => heq (by
      rw [List.getD_eq_getElem?_getD] at e
      rw [List.getElem?_eq_getElem hql] at e ⊢
      simpa using e)
     have HNE := Lib.hid hne
     clear heq hne
     generalize lessN out x = q at *
     go_upto_region 8 with fail
     go_cut [44] (fun s wx => s = .bool false ∧ Upd [] wc wx)
     case first =>
      by_cases hql : q < out.length
      ·obtain ⟨g, rfl, h4⟩ := HPO.out _ hql
       have hy := hU2.cell h4 (by simp)
       have hnn := HNE.out hql
       clear h4
       generalize out.getD q 0 = y at hy hnn
       have d0 : decide ((q : Int) < (out.length : Int)) = true := by simp; omega
       have d0' : (q : Int) < (out.length : Int) := by omega
       have d0'' : (k : Int) < (xs.length : Int) := by omega
       have d1 : (y == x) = false := by rw [beq_eq_false_iff_ne]; exact hnn
       clear hnn
       go_quiet (fail)
       go_wp2_with fail
       go_meet
       exact ⟨rfl, (Upd.refl _ _).drewN _⟩
      ·have d0 : decide ((q : Int) < (out.length : Int)) = false := by simp; omega
       go_quiet (fail)
       go_wp2_with fail
       go_meet
       exact ⟨rfl, (Upd.refl _ _).drewN _⟩
     case rest =>
      obtain ⟨rfl, hU3⟩ := hcut
      have hU4 := hU2.trans hU3
      have hU5 := hU.trans hU4
      have hO := HO.out.upd hU4 (by simp)
      have H2X := Lib.hid (hU5.cell H2.out (by simp))
      clear hx2 hU2 hU3 hU
      obtain ⟨w3, rfl⟩ : ∃ w3 : World, w3 = wc := ⟨_, rfl⟩
      have HMK := Lib.hid (fun w => make_ints w (out.length + 1) ((out.length : Int) + 1) (by omega) (by omega))
      obtain ⟨po2, co2, hs1, hs2, hr1, hr2⟩ := parts hO q hN
      have HS2 := Lib.hid hs2
      have HR1 := Lib.hid hr1
      have HR2 := Lib.hid hr2
      have hmk := HMK.out
      clear hs2 hr1 hr2
      have hqo : q ≤ out.length := hN
      have hw3 := hU5.size
      go_wp2_with fail
      have hwr : IntKind.i64.wrap ((out.length : Int) + 1) = (out.length : Int) + 1 := IntWalk.i64_in _ (by omega)
      go_region_law (refine step_append_src rfl (.tmp 48) (.tmp 51) 108 rfl w3.heap.size 3 i0 (.int .i64 0) 1 8 Tryz.underlying108 HI.out HZ0.out HZ1.out HZ2.out rfl (by decide) (.slice (some ⟨w3.heap.size, 0, none⟩) 0 (out.length + 1)) 0 [] rfl ((made_row w3 w3.heap.size (out.length + 1) (Nat.le_refl _) (by omega)).drew) (.slice po q co) q ((out.take q).map (Value.int .i64)) rfl (HR1.out _ (((Upd.refl [] w3).alloc _).drew)) (by simp; omega) (oneI _) (by unfold maxLen; omega) (by omega) (by simp) ?_; intro v1 w4 hown1 hgr1 _)
      have hu4 : Upd [] w3 w4 := (((Upd.refl [] w3).alloc _).drew).grown hgr1 (fun z hz => Or.inr (by cases hz; exact Nat.le_refl _))
      have HW4 := Lib.hid hown1
      have hx4 := hu4.cell H2X.out (by simp)
      have hs4 := hu4.size
      clear hown1 hgr1 hwr hmk hs1
      go_wp2_with (at_builtin; refine stop_here ?_)
      refine Hid.mk ?_
      refine (wpList_append_src rfl (.tmp 53) (.tmp 58) 108 rfl w3.heap.size 3 i0 (.int .i64 0) 1 8 Tryz.underlying108 HI.out HZ0.out HZ1.out HZ2.out rfl (by decide) v1 (0 + q) ([] ++ (out.take q).map (Value.int .i64)) rfl (HW4.out.alloc _) (.slice (some ⟨w4.heap.size, 0, none⟩) 1 1) 1 [.int .i64 x] rfl (.inr ⟨_, _, rfl, cell_one_new _ _ _⟩) rfl (by simp [Value.oneCell']) (by unfold maxLen; omega) (by omega) (by simp; omega) ?_)
      intro v2 w5 hown2 hgr2 _
      have hu5 : Upd [] w3 w5 := (hu4.alloc _).grown hgr2 (fun z hz => Or.inr ((HW4.out.lt z hz).1))
      have HW5 := Lib.hid hown2
      have hs2 := HS2.out
      clear hown2 hgr2 hx4
      go_wp2_with (at_builtin; refine stop_here ?_)
      refine Hid.mk ?_
      refine (wpList_append_src rfl (.tmp 60) (.tmp 63) 108 rfl w3.heap.size 3 i0 (.int .i64 0) 1 8 Tryz.underlying108 HI.out HZ0.out HZ1.out HZ2.out rfl (by decide) v2 (0 + q + 1) _ rfl HW5.out (.slice po2 (out.length - q) co2) (out.length - q) ((out.drop q).map (Value.int .i64)) rfl (HR2.out _ hu5) (by simp) (oneI _) (by unfold maxLen; omega) (by omega) (by have := hu5.size; omega) ?_)
      intro v3 w6 hown3 hgr3 _
      have hu6 : Upd [] w3 w6 := hu5.grown hgr3 (fun z hz => Or.inr ((HW5.out.lt z hz).1))
      have HW6 := Lib.hid hown3
      clear hown3 hgr3 hs2
      go_wp2_with fail
      go_roundw
      case rel =>
       refine ⟨k + 1, by omega, by go_num, ?_, hU5.trans hu6⟩
       rw [HT.out, HE.out]
       have h := row_base HW6.out hw3
       unfold OwnI
       have e1 : 0 + q + 1 + (out.length - q) = (out.take q ++ [x] ++ out.drop q).length := by simp; omega
       rw [e1] at h
       simpa using h
      case measure => simp [intOf]; omega
  ·obtain rfl : k = xs.length := by omega
   rw [List.take_length] at hout
   go_wp2_with fail
   go_ret
   exact ⟨_, rfl, hout, hU⟩

end Go.Proofs.YtojobkhidlfeoaaGreatDoor
