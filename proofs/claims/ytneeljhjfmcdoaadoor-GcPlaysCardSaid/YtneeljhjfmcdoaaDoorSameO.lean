/- SameObject, SameObjects: contracts. -/
import Derived.Test.YtneeljhjfmcdoaaDoorObjs
import Derived.Test.YtneeljhjfmcdoaaDoorSame
namespace Go.Proofs.YtneeljhjfmcdoaaDoor
open Go.RowKit

set_option maxHeartbeats 400000 in
theorem sobj (c1 c2 : Int) (v1 v2 : Value) (b1 b2 : Nat) (xs ys : List Int) (w : World) (h1 : IntsV w v1 b1 xs) (h2 : IntsV w v2 b2 ys) (hn : xs.length ≤ 1000000) :
    Calls Tryd.prog 50 #[.agg #[.int .i64 c1, v1], .agg #[.int .i64 c2, v2]] w fun e w' => e = .returned (.bool (decide (c1 = c2 ∧ xs = ys))) ∧ Upd [] w w' := by
  obtain ⟨p1, k1, rfl⟩ := h1.form
  obtain ⟨p2, k2, rfl⟩ := h2.form
  have HS := Lib.hid (fun w' (hu : Upd [] w w') => slongs _ _ _ _ xs ys w' (h1.upd hu (.inr (by simp))) (h2.upd hu (.inr (by simp))) hn)
  have hu0 := ((Upd.refl [] w).alloc (.cells #[.int .i64 c1, .slice p1 xs.length k1] 106)).alloc (.cells #[.int .i64 c2, .slice p2 ys.length k2] 106)
  have hb1 := ((Upd.refl [] _).alloc (.cells #[.int .i64 c2, .slice p2 ys.length k2] 106)).heap (heap_alloc_new w (.cells #[.int .i64 c1, .slice p1 xs.length k1] 106)) (by simp)
  have hb2 := heap_alloc_new (w.alloc (.cells #[.int .i64 c1, .slice p1 xs.length k1] 106)) (.cells #[.int .i64 c2, .slice p2 ys.length k2] 106)
  rw [World.size_alloc] at hb2
  have HB1 := Lib.hid hb1
  have HB2 := Lib.hid hb2
  have HU0 := Lib.hid hu0
  clear hb1 hb2 hu0
  go_enter Tryd.func50, Tryd.ntmps50
  go_wp2_with fail
  refine (HS.out _ HU0.out).mono ?_
  rintro e w1 ⟨rfl, hu⟩
  have a0 := cell_of (hu.heap HB1.out (by simp)) 0
  have a1 := cell_of (hu.heap HB2.out (by simp)) 0
  generalize hxy : decide (xs = ys) = bb
  have HXY := Lib.hid hxy
  clear hxy
  go_wp2_with fail
  · go_ret
    rename_i hc
    refine ⟨?_, HU0.out.trans hu⟩
    show Ending.returned (.bool bb) = _
    rw [← HXY.out]
    congr 2
    rw [decide_eq_decide]
    exact ⟨fun h => ⟨hc, h⟩, fun h => h.2⟩
  · go_ret
    rename_i hc
    refine ⟨?_, HU0.out.trans hu⟩
    show Ending.returned (.bool false) = _
    rw [decide_eq_false (fun h => hc h.1)]

theorem ObjsV.nth {w : World} {p : Option Addr} {cap : Nat} {os : List (Int × List Int)} (h : ObjsV w (.slice p os.length cap) os) (k : Nat) (hk : k < os.length) :
    ∃ ub q c b, p = some ⟨ub, 0, none⟩ ∧ w.cell? ⟨ub, k * 2, none⟩ = some (.int .i64 (os.getD k (0, [])).1) ∧ w.cell? ⟨ub, k * 2 + 1, none⟩ = some (.slice q (os.getD k (0, [])).2.length c) ∧ IntsV w (.slice q (os.getD k (0, [])).2.length c) b (os.getD k (0, [])).2 := by
  obtain ⟨p', cap', h1, h2⟩ := h
  injection h1 with h3 _ _
  subst h3
  obtain ⟨ub, v, b, h4, h5, h6, h7⟩ := h2 k hk
  obtain ⟨q, c, rfl⟩ := h7.form
  rw [Nat.mul_comm] at h5 h6
  exact ⟨ub, q, c, b, h4, h5, h6, h7⟩

theorem ObjsV.shape {w : World} {v : Value} {os : List (Int × List Int)} (h : ObjsV w v os) : ∃ p cap, v = .slice p os.length cap := by
  obtain ⟨p, cap, h1, _⟩ := h
  exact ⟨p, cap, h1⟩

set_option maxRecDepth 100000 in
set_option maxHeartbeats 2000000 in
theorem sobjs (va vb : Value) (os qs : List (Int × List Int)) (w : World) (ha : ObjsV w va os) (hb : ObjsV w vb qs) (hn : os.length ≤ 100000) (hv : ∀ o ∈ os, o.2.length ≤ 100000) :
    Calls Tryd.prog 22 #[va, vb] w fun e w' => e = .returned (.bool (decide (os = qs))) ∧ Upd [] w w' := by
  obtain ⟨pa, ca, rfl⟩ := ha.shape
  obtain ⟨pb, cb, rfl⟩ := hb.shape
  by_cases hl : os.length = qs.length
  · have HV := Lib.hid hv
    clear hv
    have hlb : qs.length ≤ 100000 := by omega
    have hl1 : os.length ≤ qs.length := by omega
    have hl2 : qs.length ≤ os.length := by omega
    have HLE := Lib.hid hl
    have hnb : ((os.length : Int) != (qs.length : Int)) = false := by rw [hl]; simp
    clear hl
    go_enter Tryd.func22, Tryd.ntmps22
    go_wp2_with fail
    go_loopw [5] (fun i wr => ∃ k : Nat, k ≤ os.length ∧ i = .int .i64 k ∧ Hid (∀ j, j < k → os.getD j (0, []) = qs.getD j (0, [])) ∧ Upd [] w wr) (fun i _ => os.length - (intOf i).toNat)
    case atStart => exact ⟨0, by omega, rfl, (fun j hj => by omega : ∀ j, j < 0 → _), Upd.refl _ _⟩
    case round =>
      obtain ⟨k, hk, rfl, hsame, hU⟩ := hrel
      by_cases hlt : k < os.length
      · obtain ⟨ua, qa, na, ba, rfl, a0, a1, a2⟩ := (ha.upd hU).nth k hlt
        obtain ⟨ub, qb, nb, bb, rfl, b0, b1, b2⟩ := (hb.upd hU).nth k (by omega)
        have HVK : Hid ((os.getD k (0, [])).2.length ≤ 100000) := HV.out _ (by rw [List.getD_eq_getElem?_getD, List.getElem?_eq_getElem hlt]; exact List.getElem_mem hlt)
        have HS := Lib.hid (fun w' (hu : Upd [] wr w') => sobj (os.getD k (0, [])).1 (qs.getD k (0, [])).1 _ _ _ _ _ _ w' (a2.upd hu (.inr (by simp))) (b2.upd hu (.inr (by simp))) (by have := HVK.out; omega))
        have HE : Hid (decide ((os.getD k (0, [])).1 = (qs.getD k (0, [])).1 ∧ (os.getD k (0, [])).2 = (qs.getD k (0, [])).2) = decide (os.getD k (0, []) = qs.getD k (0, []))) := by
          show _ = _
          rw [decide_eq_decide]
          exact Prod.ext_iff.symm
        rw [HE.out] at HS
        obtain ⟨bo, hbo⟩ : ∃ b : Bool, decide (os.getD k (0, []) = qs.getD k (0, [])) = b := ⟨_, rfl⟩
        rw [hbo] at HS
        have HBO := Lib.hid hbo
        clear hbo HE a2 b2
        generalize (os.getD k (0, [])).1 = oc at a0 HS
        generalize (os.getD k (0, [])).2 = ov at a1 HS HVK
        generalize (qs.getD k (0, [])).1 = qc at b0 HS
        generalize (qs.getD k (0, [])).2 = qv at b1 HS
        have hlt2 : k < qs.length := by omega
        obtain ⟨wo, rfl⟩ : ∃ wo : World, wo = wr := ⟨_, rfl⟩
        go_wp2_with fail
        go_still_tail 8, (by kernel_rfl)
        change wpList _ _ _ _ _ wo.drew
        have hu1 : Upd [] wo wo.drew := (Upd.refl _ _).drew
        clear a0 a1 b0 b1
        generalize wo.drew = w1 at hu1 ⊢
        go_wp2_with fail
        refine (HS.out _ hu1).mono ?_
        rintro e w2 ⟨rfl, hu2⟩
        have hU2 := hU.trans (hu1.trans hu2)
        cases bo with
        | true =>
          go_wp2_with fail
          go_roundw
          case rel =>
            refine ⟨k + 1, by omega, by go_num, (fun j hj => ?_ : ∀ j, j < k + 1 → _), hU2⟩
            by_cases e : j = k
            · subst e; exact of_decide_eq_true HBO.out
            · exact hsame.out j (by omega)
          case measure => simp [intOf]; omega
        | false =>
          go_wp2_with fail
          go_ret
          have hne : os ≠ qs := fun e => of_decide_eq_false HBO.out (by rw [e])
          exact ⟨by simp [hne], hU2⟩
      · obtain rfl : k = os.length := by omega
        go_wp2_with fail
        go_ret
        have heq : os = qs := by
          apply List.ext_getElem HLE.out
          intro i h1 h2
          have := hsame.out i (by omega)
          rw [List.getD_eq_getElem?_getD, List.getD_eq_getElem?_getD, List.getElem?_eq_getElem h1, List.getElem?_eq_getElem h2] at this
          simpa using this
        exact ⟨by simp [heq], hU⟩
  · go_enter Tryd.func22, Tryd.ntmps22
    go_wp2_with fail
    go_ret
    have : os ≠ qs := fun e => hl (by rw [e])
    exact ⟨by simp [this], Upd.refl _ _⟩

end Go.Proofs.YtneeljhjfmcdoaaDoor
