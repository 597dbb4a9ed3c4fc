/- dom.Tree's Frontier, Kids, Idoms. dom.Tree's questions inside regions that draw their order: quiet contracts. -/
import Derived.Test.YtjjkliifpdcliaaDoorFronts
import Derived.Test.YtjjkliifpdcliaaDoorOnce1
import Derived.Test.YtjjkliifpdcliaaDoorClone
/-! dom.Tree's Frontier, Kids, Idoms. -/
namespace Go.Proofs.YtjjkliifpdcliaaDoor
open Go.RowKit

theorem FrOk.upd {w w' : World} {B : Nat} {c : List (List Nat)} {f : Nat → Nat} {fr : Value} {tb : Nat} {cs : Array Value} (h : FrOk w B c f fr) (ht : w.heap[tb]? = some (.cells cs 58)) (hu : Upd [tb] w w') : FrOk w' B c f fr := by
  obtain ⟨fb, vals, e, h1, h2, h3, h4⟩ := h
  refine ⟨fb, vals, e, hu.heap h1 (fun hm => ?_), h2, h3, fun i hi => (h4 i hi).upd hu (fun k hk hm => ?_)⟩
  · simp at hm
    subst hm
    rw [ht] at h1
    simp at h1
  · simp at hm
    subst hm
    exact own_heap_ne (h4 i hi) ht (by decide) hk
theorem FrOk.up0 {w w' : World} {B : Nat} {c : List (List Nat)} {f : Nat → Nat} {fr : Value} (h : FrOk w B c f fr) (hu : Upd [] w w') : FrOk w' B c f fr := by
  obtain ⟨fb, vals, e, h1, h2, h3, h4⟩ := h
  exact ⟨fb, vals, e, hu.heap h1 (by simp), h2, h3, fun i hi => (h4 i hi).upd hu (by simp)⟩
theorem FrOk.low {w : World} {B B' : Nat} {c : List (List Nat)} {f : Nat → Nat} {fr : Value} (h : FrOk w B c f fr) (hb : B' ≤ B) : FrOk w B' c f fr := by
  obtain ⟨fb, vals, e, h1, h2, h3, h4⟩ := h
  exact ⟨fb, vals, e, h1, h2, by omega, fun i hi => row_base (h4 i hi) hb⟩
theorem TreeG.blk {w : World} {B tb : Nat} {c : List (List Nat)} {f : Nat → Nat} {va vb vc fr : Value} (h : TreeG w B tb c f va vb vc fr) : ∃ s0 s1 s2 s3, w.heap[tb]? = some (.cells #[s0, s1, s2, s3, va, vb, vc, fr] 58) ∧ B ≤ tb := by
  obtain ⟨gb, ib, db, kb, G1, B1, G2, B2, vs, ks, ids, h1, _, _, _, _, _, _, _, l1, _⟩ := h
  exact ⟨_, _, _, _, h1, l1⟩

/-- The frontier of i. -/
noncomputable def fronV (c : List (List Nat)) (f : Nat → Nat) (i : Int) : List Int := if 0 ≤ i ∧ i < (c.length : Int) then ints (fronL c f i.toNat) else []

/-- What 'once.Do' leaves: the frontiers are worked out. -/
theorem doF_any (c : List (List Nat)) (hc : Clean c) (hn : c.length ≤ 1000) (B tb : Nat) (f : Nat → Nat) (d : Int) (fr : Value) (w : World) (h : TreeAt w B tb c f d fr) (hT : TzAt w) (hfr : d = 0 ∨ d = 1 ∧ FrOk w B c f fr) :
    Calls Tryd.prog 29 #[.pointer (some ⟨tb, 4, none⟩), .func (.func 30) #[.pointer (some ⟨tb, 0, none⟩)] #[]] w fun e w' => e = .returned (.tuple #[]) ∧ ∃ fr', TreeAt w' B tb c f 1 fr' ∧ FrOk w' B c f fr' ∧ Upd [tb] w w' := by
  obtain ⟨s0, s1, s2, s3, hb, hB⟩ := TreeG.blk h.g
  have hlt := lt_of_heap hb
  rcases hfr with rfl | ⟨rfl, hfr⟩
  · have hu5 : Upd [tb] w (w.setCell ⟨tb, 5, none⟩ (.int .i32 1)) := (Upd.refl _ _).setCell (.inl (by simp)) _
    have hg5 : TreeG (w.setCell ⟨tb, 5, none⟩ (.int .i32 1)) B tb c f (.int .u32 0) (.int .i32 1) (.int .u32 0) fr := h.g.put (fun _ _ _ _ => rfl)
    have htab : 0 ≠ tb := by
      intro e
      have h1 := hT 0 (by decide)
      have h2 : w.cell? ⟨tb, 0, none⟩ = some s0 := by rw [cell_of hb]; rfl
      rw [← e] at h2
      obtain ⟨gb, ib, db, kb, G1, B1, G2, B2, vs, ks, ids, q1, _⟩ := h
      have h4 : w.cell? ⟨tb, 0, none⟩ = some (.slice (some ⟨gb, 0, none⟩) c.length c.length) := by rw [cell_of q1]; rfl
      rw [← e] at h4
      have h3 := h4.symm.trans h1
      injection h3 with h3
      cases h3
    refine (do_first tb w (by rw [cell_of hb]; rfl) (by rw [cell_of hb]; rfl) (froz_of hb 5) (fun w1 => ∃ fr', TreeG w1 B tb c f (.int .u32 0) (.int .i32 1) (.int .u32 0) fr' ∧ FrOk w1 (w.setCell ⟨tb, 5, none⟩ (.int .i32 1)).heap.size c f fr' ∧ Upd [tb] (w.setCell ⟨tb, 5, none⟩ (.int .i32 1)) w1) (frontiers_any c hc hn B tb f _ _ _ fr _ hg5 (hT.upd hu5 (by simpa using htab))) ?_).mono ?_
    · rintro w1 ⟨fr', hg, _, _⟩
      obtain ⟨t0, t1, t2, t3, hb1, _⟩ := hg.blk
      exact ⟨by rw [cell_of hb1]; rfl, by rw [cell_of hb1]; rfl, froz_of hb1 4, froz_of hb1 5⟩
    · rintro e w' ⟨rfl, w1, ⟨fr', hg, hf, hu⟩, rfl⟩
      have hgd : TreeG w1.drew B tb c f (.int .u32 0) (.int .i32 1) (.int .u32 0) fr' := hg.low (S := []) (Upd.refl [] w1).drew (by simp)
      have hg1 : TreeG (w1.drew.setCell ⟨tb, 4, none⟩ (.int .u32 1)) B tb c f (.int .u32 1) (.int .i32 1) (.int .u32 0) fr' := hgd.put (fun _ _ _ _ => rfl)
      have hg2 : TreeG ((w1.drew.setCell ⟨tb, 4, none⟩ (.int .u32 1)).setCell ⟨tb, 5, none⟩ (.int .i32 0)) B tb c f (.int .u32 1) (.int .i32 0) (.int .u32 0) fr' := hg1.put (fun _ _ _ _ => rfl)
      have hue : Upd [tb] w1 ((w1.drew.setCell ⟨tb, 4, none⟩ (.int .u32 1)).setCell ⟨tb, 5, none⟩ (.int .i32 0)) := ((Upd.refl [tb] w1).drew.setCell (.inl (by simp)) _).setCell (.inl (by simp)) _
      obtain ⟨t0, t1, t2, t3, hb1, _⟩ := hg.blk
      refine ⟨rfl, fr', hg2, (hf.upd hb1 hue).low ?_, (hu5.trans hu).trans hue⟩
      have := hu5.size
      omega
  · refine (do_done ⟨tb, 4, none⟩ 1 (by decide) _ w (by rw [cell_of hb]; rfl)).mono ?_
    rintro e w' ⟨rfl, rfl⟩
    exact ⟨rfl, fr, h, hfr, Upd.refl _ _⟩

set_option maxRecDepth 100000 in
set_option maxHeartbeats 2000000 in
theorem frontier_any (c : List (List Nat)) (hc : Clean c) (hn : c.length ≤ 1000) (B tb : Nat) (f : Nat → Nat) (d : Int) (fr : Value) (i : Int) (hi : -9223372036854775808 ≤ i ∧ i ≤ 9223372036854775807) (w : World) (h : TreeAt w B tb c f d fr) (hT : TzAt w) (hfr : d = 0 ∨ d = 1 ∧ FrOk w B c f fr) :
    Calls Tryd.prog 13 #[.pointer (some ⟨tb, 0, none⟩), .int .i64 i] w fun e w' => ∃ u fr', e = .returned u ∧ OwnI w' w.heap.size 3 u (fronV c f i) ∧ TreeAt w' B tb c f 1 fr' ∧ FrOk w' B c f fr' ∧ Upd [tb] w w' := by
  have HDO := Lib.hid (doF_any c hc hn B tb f d fr w h hT hfr)
  clear h hT hfr
  go_enter Tryd.func13, Tryd.ntmps13
  go_wp2_with fail
  refine HDO.out.mono ?_
  rintro e w1 ⟨rfl, fr', hA, hF, hu⟩
  have HA := Lib.hid hA
  have HF := Lib.hid hF
  have HU := Lib.hid hu
  have hs1 := hu.size
  obtain ⟨s0, s1, s2, s3, hb, _⟩ := TreeG.blk hA.g
  obtain ⟨fb, vals, e, h1, h2, h3, h4⟩ := hF
  subst e
  have hc7 : w1.cell? ⟨tb, 7, none⟩ = some (.slice (some ⟨fb, 0, none⟩) c.length c.length) := by rw [cell_of hb]; rfl
  have H1 := Lib.hid h1
  have H4 := Lib.hid h4
  clear hA hu hb h1 h4 HDO
  by_cases hi1 : i < 0
  · have d0 : decide (i < 0) = true := decide_eq_true hi1
    have HE : Hid (fronV c f i = []) := if_neg (fun h => by omega)
    go_wp2_with fail
    go_ret
    exact ⟨_, _, rfl, by rw [HE.out]; exact OwnI.nil _ _ _, HA.out, HF.out, HU.out⟩
  · have d0 : decide (i < 0) = false := decide_eq_false hi1
    by_cases hi2 : (c.length : Int) ≤ i
    · have d1 : decide ((c.length : Int) ≤ i) = true := decide_eq_true hi2
      have d1' : decide (i ≥ (c.length : Int)) = true := decide_eq_true hi2
      have HE : Hid (fronV c f i = []) := if_neg (fun h => by omega)
      go_wp2_with fail
      go_ret
      exact ⟨_, _, rfl, by rw [HE.out]; exact OwnI.nil _ _ _, HA.out, HF.out, HU.out⟩
    · have d1 : decide ((c.length : Int) ≤ i) = false := decide_eq_false hi2
      have d1' : decide (i ≥ (c.length : Int)) = false := decide_eq_false hi2
      obtain ⟨q, rfl⟩ := Int.eq_ofNat_of_zero_le (show 0 ≤ i by omega)
      have hq : q < c.length := by omega
      have HE : Hid (fronV c f (q : Int) = ints (fronL c f q)) := by
        show _ = _
        unfold fronV
        rw [if_pos ⟨by omega, by omega⟩, Int.toNat_natCast]
      have hrc : w1.cell? ⟨fb, q, none⟩ = some (vals.getD q undef) := by
        rw [cell_of H1.out, List.getElem?_toArray, List.getD_eq_getElem?_getD, List.getElem?_eq_getElem (by omega)]; rfl
      obtain ⟨bb, hib, _⟩ := (H4.out q hq).ints
      have hfl : (ints (fronL c f q)).length ≤ 100000 := by
        rw [ints_len]
        have : (fronL c f q).length ≤ c.length := by
          unfold fronL
          have := List.length_filter_le (fun p => (Classical.propDecidable (DFp c f q p)).decide) (List.range c.length)
          simpa using this
        omega
      have HCL := Lib.hid (clone_any _ bb _ w1 hib hfl)
      obtain ⟨p9, c9, hv9⟩ := (H4.out q hq).shape
      rw [hv9] at hrc HCL
      clear hib hfl hv9
      go_wp2_with fail
      refine HCL.out.mono ?_
      rintro e w5 ⟨u, rfl, hO, hu5⟩
      have HO : Hid (OwnI w5 w.heap.size 3 u (ints (fronL c f q))) := row_base hO hs1
      have HU5 := Lib.hid hu5
      obtain ⟨p8, c8, rfl⟩ := hO.shape
      clear hO hu5 HCL
      go_wp2_with fail
      go_ret
      exact ⟨_, _, rfl, by rw [HE.out]; exact HO.out, (HA.out.g.low (S := []) HU5.out (by simp)).at, HF.out.up0 HU5.out, HU.out.trans (HU5.out.mono (by simp))⟩

/-- The kids of i. -/
def kidV (c : List (List Nat)) (f : Nat → Nat) (i : Int) : List Int := if 0 ≤ i ∧ i < (c.length : Int) then ints (kidF c f i.toNat) else []

set_option maxRecDepth 100000 in
set_option maxHeartbeats 2000000 in
theorem kids_any (c : List (List Nat)) (hn : c.length ≤ 1000) (B tb : Nat) (f : Nat → Nat) (va vb vc fr : Value) (i : Int) (hi : -9223372036854775808 ≤ i ∧ i ≤ 9223372036854775807) (w : World) (h : TreeG w B tb c f va vb vc fr) :
    Calls Tryd.prog 15 #[.pointer (some ⟨tb, 0, none⟩), .int .i64 i] w fun e w' => ∃ u, e = .returned u ∧ OwnI w' w.heap.size 3 u (kidV c f i) ∧ Upd [] w w' := by
  obtain ⟨gb, ib, db, kb, G1, B1, G2, B2, vs, ks, ids, h1, h2, h3, h4, h5, h6, h7, h8, l1, l2, l3, l4, l5⟩ := h
  have hc3 : w.cell? ⟨tb, 3, none⟩ = some (.slice (some ⟨kb, 0, none⟩) c.length c.length) := by rw [cell_of h1]; rfl
  have H8 := Lib.hid h8
  clear h1 h2 h3 h4 h5 h6 h7 h8 l1 l2 l3 l4 l5
  go_enter Tryd.func15, Tryd.ntmps15
  by_cases hi1 : i < 0
  · have d0 : decide (i < 0) = true := decide_eq_true hi1
    have HE : Hid (kidV c f i = []) := if_neg (fun h => by omega)
    go_wp2_with fail
    go_ret
    exact ⟨_, rfl, by rw [HE.out]; exact OwnI.nil _ _ _, Upd.refl _ _⟩
  · have d0 : decide (i < 0) = false := decide_eq_false hi1
    by_cases hi2 : (c.length : Int) ≤ i
    · have d1 : decide ((c.length : Int) ≤ i) = true := decide_eq_true hi2
      have d1' : decide (i ≥ (c.length : Int)) = true := decide_eq_true hi2
      have HE : Hid (kidV c f i = []) := if_neg (fun h => by omega)
      go_wp2_with fail
      go_ret
      exact ⟨_, rfl, by rw [HE.out]; exact OwnI.nil _ _ _, Upd.refl _ _⟩
    · have d1 : decide ((c.length : Int) ≤ i) = false := decide_eq_false hi2
      have d1' : decide (i ≥ (c.length : Int)) = false := decide_eq_false hi2
      obtain ⟨q, rfl⟩ := Int.eq_ofNat_of_zero_le (show 0 ≤ i by omega)
      have hq : q < c.length := by omega
      have HE : Hid (kidV c f (q : Int) = ints (kidF c f q)) := by
        show _ = _
        unfold kidV
        rw [if_pos ⟨by omega, by omega⟩, Int.toNat_natCast]
      have hil : q < (intsL (kidsF c f)).length := by rw [intsL_len, kidsF_len]; exact hq
      have hrc := H8.out.cell q hil
      have hown := H8.out.own q hil
      rw [intsL_get, kidsF_get c f q hq] at hown
      obtain ⟨bb, hib, _⟩ := hown.ints
      have hfl : (ints (kidF c f q)).length ≤ 100000 := by
        rw [ints_len]
        have : (kidF c f q).length ≤ c.length := by
          unfold kidF
          have := List.length_filter_le (fun i => decide (Rd c i ∧ i ≠ 0 ∧ f i = q)) (List.range c.length)
          simpa using this
        omega
      have HCL := Lib.hid (clone_any _ bb _ w hib hfl)
      obtain ⟨p9, c9, hv9⟩ := hown.shape
      rw [hv9] at hrc HCL
      clear hib hfl hv9 hown hil
      go_wp2_with fail
      refine HCL.out.mono ?_
      rintro e w5 ⟨u, rfl, hO, hu5⟩
      have HO := Lib.hid hO
      have HU5 := Lib.hid hu5
      obtain ⟨p8, c8, rfl⟩ := hO.shape
      clear hO hu5 HCL
      go_wp2_with fail
      go_ret
      exact ⟨_, rfl, by rw [HE.out]; exact HO.out, HU5.out⟩

/-- Who is right above each place. -/
def idomsV (c : List (List Nat)) (f : Nat → Nat) : List Int := (List.range c.length).map fun v => if Rd c v ∧ v ≠ 0 then (f v : Int) else -1

set_option maxRecDepth 100000 in
set_option maxHeartbeats 2000000 in
theorem idoms_any (c : List (List Nat)) (hn : c.length ≤ 1000) (B tb : Nat) (f : Nat → Nat) (va vb vc fr : Value) (w : World) (h : TreeG w B tb c f va vb vc fr) :
    Calls Tryd.prog 21 #[.pointer (some ⟨tb, 0, none⟩)] w fun e w' => ∃ u, e = .returned u ∧ OwnI w' w.heap.size 3 u (idomsV c f) ∧ Upd [] w w' := by
  obtain ⟨gb, ib, db, kb, G1, B1, G2, B2, vs, ks, ids, h1, h2, h3, h4, h5, h6, h7, h8, l1, l2, l3, l4, l5⟩ := h
  have hc1 : w.cell? ⟨tb, 1, none⟩ = some (.slice (some ⟨ib, 0, none⟩) c.length c.length) := by rw [cell_of h1]; rfl
  have he : ids = idomsV c f := by
    apply List.ext_getElem
    · simp [idomsV, h3]
    · intro v q1 q2
      have := h4 v (by omega)
      rw [List.getD_eq_getElem?_getD, List.getElem?_eq_getElem q1] at this
      simp only [Option.getD_some] at this
      rw [this]
      simp [idomsV]
  have hib : IntsV w (.slice (some ⟨ib, 0, none⟩) ids.length c.length) ib ids := ⟨.inr ⟨_, rfl⟩, fun i hi => by rw [cell_of h6]; exact icells_get ids i hi⟩
  have HCL := Lib.hid (clone_any _ ib _ w hib (by omega))
  rw [h3] at HCL
  have HE := Lib.hid he
  clear h1 h2 h3 h4 h5 h6 h7 h8 l1 l2 l3 l4 l5 he hib
  go_enter Tryd.func21, Tryd.ntmps21
  go_wp2_with fail
  refine HCL.out.mono ?_
  rintro e w5 ⟨u, rfl, hO, hu5⟩
  have HO := Lib.hid hO
  have HU5 := Lib.hid hu5
  obtain ⟨p8, c8, rfl⟩ := hO.shape
  clear hO hu5 HCL
  go_wp2_with fail
  go_ret
  exact ⟨_, rfl, by rw [← HE.out]; exact HO.out, HU5.out⟩

end Go.Proofs.YtjjkliifpdcliaaDoor

/-! dom.Tree's questions inside regions that draw their order: quiet contracts. -/
namespace Go.Proofs.YtjjkliifpdcliaaDoor
open Go.RowKit

theorem drewN_drewN (w : World) (a b : Nat) : (w.drewN a).drewN b = w.drewN (a + b) := by
  unfold World.drewN
  simp [Nat.add_assoc]
theorem drewN_ex {w wo : World} (h : ∃ m, wo = w.drewN m) (k : Nat) : ∃ m, wo.drewN k = w.drewN m := by
  obtain ⟨m, rfl⟩ := h
  exact ⟨m + k, drewN_drewN w m k⟩

open Classical in
set_option maxRecDepth 100000 in
set_option maxHeartbeats 2000000 in
theorem above_drew (c : List (List Nat)) (hc : Clean c) (hn : c.length ≤ 1000) (B tb : Nat) (f : Nat → Nat) (va vb vc fr : Value) (a b : Int) (ha : -9223372036854775808 ≤ a ∧ a ≤ 9223372036854775807) (hb : -9223372036854775808 ≤ b ∧ b ≤ 9223372036854775807) (w : World) (h : TreeG w B tb c f va vb vc fr) :
    Calls Tryd.prog 12 #[.pointer (some ⟨tb, 0, none⟩), .int .i64 a, .int .i64 b] w fun e w' => e = .returned (.bool (decide (aboveP c f a b))) ∧ ∃ m, w' = w.drewN m := by
  have HTA := Lib.hid (there_any c hc hn B tb f va vb vc fr a ha w h)
  have HTB := Lib.hid (there_any c hc hn B tb f va vb vc fr b hb w h)
  obtain ⟨gb, ib, db, kb, G1, B1, G2, B2, vs, ks, ids, h1, h2, h3, h4, h5, h6, h7, h8, l1, l2, l3, l4, l5⟩ := h
  have ht1 : w.cell? ⟨tb, 1, none⟩ = some (.slice (some ⟨ib, 0, none⟩) c.length c.length) := by rw [cell_of h1]; rfl
  have ht2 : w.cell? ⟨tb, 2, none⟩ = some (.slice (some ⟨db, 0, none⟩) c.length c.length) := by rw [cell_of h1]; rfl
  have HC := Lib.hid hc
  have H2 := Lib.hid h2
  have H4 := Lib.hid h4
  have H6 := Lib.hid h6
  have H7 := Lib.hid h7
  have H3 := Lib.hid h3
  have HT1 := Lib.hid ht1
  have HT2 := Lib.hid ht2
  clear h1 h2 h3 h4 h5 h6 h7 h8 l1 l2 l3 l4 l5 hc ht1 ht2
  go_enter Tryd.func12, Tryd.ntmps12
  by_cases hra : thereP c a
  · rw [decide_eq_true hra] at HTA
    by_cases hrb : thereP c b
    · rw [decide_eq_true hrb] at HTB
      obtain ⟨x, rfl⟩ := Int.eq_ofNat_of_zero_le hra.1
      obtain ⟨y0, rfl⟩ := Int.eq_ofNat_of_zero_le hrb.1
      have hxr : Rd c x := by have := hra.2; rwa [Int.toNat_natCast] at this
      have hyr : Rd c y0 := by have := hrb.2; rwa [Int.toNat_natCast] at this
      have HAB : Hid (aboveP c f (x : Int) (y0 : Int) ↔ Anc f x y0) := by
        show _ ↔ _
        unfold aboveP
        rw [Int.toNat_natCast, Int.toNat_natCast]
        exact ⟨fun h => h.2.2, fun h => ⟨hra, hrb, h⟩⟩
      have hne : c ≠ [] := by
        rintro rfl
        exact absurd hxr (by simp [Rd, rpo, dfs])
      obtain ⟨par, hg⟩ := dfs_dg HC.out hne
      have HG := Lib.hid hg
      have HEX := Lib.hid (H2.out hne)
      have HX := Lib.hid hxr
      have HY := Lib.hid hyr
      have hxn := rd_lt HC.out hxr
      clear hra hrb hxr hyr hg hne
      go_wp2_with fail
      refine HTA.out.mono ?_
      rintro e w' ⟨rfl, rfl⟩
      go_wp2_with fail
      refine HTB.out.mono ?_
      rintro e w'' ⟨rfl, rfl⟩
      go_wp2_with fail
      go_loopw [2] (fun bv wr => ∃ y : Nat, bv = .int .i64 (y : Int) ∧ Hid (Rd c y) ∧ Hid (Anc f x y0 ↔ Anc f x y) ∧ Hid (∃ m, wr = w''.drewN m)) (fun bv _ => dep c f (intOf bv).toNat)
      case atStart => exact ⟨y0, rfl, HY, Iff.rfl, 0, rfl⟩
      case round =>
        obtain ⟨y, rfl, HYR, HXY, HU⟩ := hrel
        obtain ⟨wo, rfl⟩ : ∃ wo : World, wo = wr := ⟨_, rfl⟩
        have HD := HU
        have HU : Hid (Upd [] w'' wo) := by
          obtain ⟨m, e⟩ := HD.out
          rw [e]
          exact (Upd.refl [] w'').drewN m
        have ht1 := HU.out.cell HT1.out (by simp)
        have ht2 := HU.out.cell HT2.out (by simp)
        have hdx := dep_cell HC.out (HU.out.heap H7.out (by simp)) HX.out
        have hdy := dep_cell HC.out (HU.out.heap H7.out (by simp)) HYR.out
        have hyn := rd_lt HC.out HYR.out
        have hiy : wo.cell? ⟨ib, y, none⟩ = some (.int .i64 (if Rd c y ∧ y ≠ 0 then (f y : Int) else -1)) := by
          have h3 := H3.out
          rw [cell_of (HU.out.heap H6.out (by simp)), icells_get _ _ (by omega), getD_dflt 0 (-1) (by omega), H4.out y hyn]
        by_cases hd : dep c f x < dep c f y
        · have d0 : decide (dep c f x < dep c f y) = true := decide_eq_true hd
          have d1 : decide ((dep c f x : Int) < (dep c f y : Int)) = true := decide_eq_true (by omega)
          have d2 : decide ((dep c f y : Int) > (dep c f x : Int)) = true := decide_eq_true (by omega)
          have hy0 : y ≠ 0 := by rintro rfl; rw [dep_zero] at hd; omega
          rw [if_pos ⟨HYR.out, hy0⟩] at hiy
          have HST := Lib.hid (dep_step HG.out HEX.out.tr HYR.out hy0)
          have HXY2 : Hid (Anc f x y0 ↔ Anc f x (f y)) := by
            refine HXY.out.trans ⟨fun h => (h.of_ne (by rintro rfl; omega)).2, fun h => .up y hy0 h⟩
          have HFY := Lib.hid (HEX.out.tr.up y HYR.out hy0)
          generalize hdq : dep c f x = dq at hdx hd d0 d1 d2
          generalize hdr : dep c f y = dr at hdy hd d0 d1 d2
          have HDR := Lib.hid hdr
          clear hdq hdr hd hy0
          go_wp2_with fail
          go_quiet (fail)
          go_wp2_with fail
          go_roundw
          case rel => exact ⟨f y, rfl, HFY.out, HXY2.out, drewN_ex HD.out _⟩
          case measure =>
            have := HST.out
            simp only [intOf, Int.toNat_natCast]
            omega
        · have d0 : decide (dep c f x < dep c f y) = false := decide_eq_false hd
          have d1 : decide ((dep c f x : Int) < (dep c f y : Int)) = false := decide_eq_false (by omega)
          have d2 : decide ((dep c f y : Int) > (dep c f x : Int)) = false := decide_eq_false (by omega)
          have HFIN : Hid (Anc f x y0 ↔ x = y) := by
            refine HXY.out.trans ⟨fun h => ?_, fun h => by rw [h]; exact .refl⟩
            rcases anc_dep HG.out HEX.out.tr h HYR.out with h1 | h1
            · exact h1
            · exact absurd h1 hd
          have HXY3 : Hid (((x : Int) == (y : Int)) = decide (aboveP c f (x : Int) (y0 : Int))) := by
            show _ = _
            by_cases e : x = y
            · rw [decide_eq_true (HAB.out.2 (HFIN.out.2 e)), beq_iff_eq]; omega
            · rw [decide_eq_false (fun h => e (HFIN.out.1 (HAB.out.1 h))), beq_eq_false_iff_ne]; omega
          generalize dep c f x = dq at hdx hd d0 d1 d2
          generalize dep c f y = dr at hdy hd d0 d1 d2
          clear hd hiy
          go_wp2_with fail
          go_quiet (fail)
          go_wp2_with fail
          go_ret
          exact ⟨by rw [← HXY3.out]; rfl, drewN_ex HD.out _⟩
    · rw [decide_eq_false hrb] at HTB
      have HR : Hid (¬ aboveP c f a b) := fun h => hrb h.2.1
      clear hra hrb
      go_wp2_with fail
      refine HTA.out.mono ?_
      rintro e w' ⟨rfl, rfl⟩
      go_wp2_with fail
      refine HTB.out.mono ?_
      rintro e w'' ⟨rfl, rfl⟩
      go_wp2_with fail
      go_ret
      exact ⟨by rw [decide_eq_false HR.out]; rfl, 0, rfl⟩
  · rw [decide_eq_false hra] at HTA
    have HR : Hid (¬ aboveP c f a b) := fun h => hra h.1
    clear hra
    go_wp2_with fail
    refine HTA.out.mono ?_
    rintro e w' ⟨rfl, rfl⟩
    go_wp2_with fail
    go_ret
    exact ⟨by rw [decide_eq_false HR.out]; rfl, 0, rfl⟩


open Classical in
noncomputable def abB (c : List (List Nat)) (f : Nat → Nat) (a b : Int) : Bool := decide (aboveP c f a b)

theorem TreeG.drewN {w : World} {B tb : Nat} {c : List (List Nat)} {f : Nat → Nat} {va vb vc fr : Value} (h : TreeG w B tb c f va vb vc fr) (n : Nat) : TreeG (w.drewN n) B tb c f va vb vc fr := h.low (S := []) ((Upd.refl [] w).drewN n) (by simp)

theorem above_q (c : List (List Nat)) (hc : Clean c) (hn : c.length ≤ 1000) (B tb : Nat) (f : Nat → Nat) (va vb vc fr : Value) (w : World) (h : TreeG w B tb c f va vb vc fr) (a b : Int) (n : Nat) (ha : -9223372036854775808 ≤ a ∧ a ≤ 9223372036854775807) (hb : -9223372036854775808 ≤ b ∧ b ≤ 9223372036854775807) :
    Calls Tryd.prog 12 #[.pointer (some ⟨tb, 0, none⟩), .int .i64 a, .int .i64 b] (w.drewN n) fun e w' => e = .returned (.bool (abB c f a b)) ∧ ∃ m, w' = w.drewN m := by
  refine (above_drew c hc hn B tb f va vb vc fr a b ha hb (w.drewN n) (h.drewN n)).mono ?_
  rintro e w' ⟨rfl, m, rfl⟩
  exact ⟨rfl, n + m, drewN_drewN w n m⟩
theorem idom_q (c : List (List Nat)) (hc : Clean c) (hn : c.length ≤ 1000) (B tb : Nat) (f : Nat → Nat) (va vb vc fr : Value) (w : World) (h : TreeG w B tb c f va vb vc fr) (i : Int) (n : Nat) (hi : -9223372036854775808 ≤ i ∧ i ≤ 9223372036854775807) :
    Calls Tryd.prog 16 #[.pointer (some ⟨tb, 0, none⟩), .int .i64 i] (w.drewN n) fun e w' => e = .returned (.int .i64 (idomV c f i)) ∧ ∃ m, w' = w.drewN m := by
  refine (idom_any c hc hn B tb f va vb vc fr i hi (w.drewN n) (h.drewN n)).mono ?_
  rintro e w' ⟨rfl, rfl⟩
  exact ⟨rfl, n, rfl⟩
theorem depth_q (c : List (List Nat)) (hc : Clean c) (hn : c.length ≤ 1000) (B tb : Nat) (f : Nat → Nat) (va vb vc fr : Value) (w : World) (h : TreeG w B tb c f va vb vc fr) (i : Int) (n : Nat) (hi : -9223372036854775808 ≤ i ∧ i ≤ 9223372036854775807) :
    Calls Tryd.prog 17 #[.pointer (some ⟨tb, 0, none⟩), .int .i64 i] (w.drewN n) fun e w' => e = .returned (.int .i64 (depV c f i)) ∧ ∃ m, w' = w.drewN m := by
  refine (depth_any c hc hn B tb f va vb vc fr i hi (w.drewN n) (h.drewN n)).mono ?_
  rintro e w' ⟨rfl, rfl⟩
  exact ⟨rfl, n, rfl⟩

end Go.Proofs.YtjjkliifpdcliaaDoor
