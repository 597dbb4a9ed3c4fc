/- GcRoom: objects without references, so many roots: there is always room, in plain Lean. GcRoom: the walk. -/
import Derived.Test.YtneeljhjfmcdoaaDoorGcL
import Derived.Test.YtneeljhjfmcdoaaDoorMake
import Derived.Test.YtneeljhjfmcdoaaDoorKPrg
import Derived.Test.YtneeljhjfmcdoaaDoorLightP
import Derived.Test.YtneeljhjfmcdoaaDoorNumA
import Derived.Test.YtneeljhjfmcdoaaDoorWordsD
import Derived.Test.YtneeljhjfmcdoaaDoorFrame
import Derived.Deep.RegionHeld3
/-! GcRoom: objects without references, so many roots: there is always room, in plain Lean. -/
namespace Go.Proofs.YtneeljhjfmcdoaaDoor
open Go.RowKit

theorem layK_bg (S : Hp) (k : Nat) (c n : Int) : (S.layK k c n).bg.length = ((S.layK k c n).A.length + 63) / 64 ↔ S.bg.length = (S.A.length + 63) / 64 := by
  unfold Hp.layK
  split
  · rw [laid_len, laid_bg, show ∀ l i, (badd l i).length = l.length from fun l i => by simp [badd]]
  · exact Iff.rfl
/-- What holds in the law's loop: no object has a reference, none is greater than `most`. -/
structure Ro (S : Hp) (cs : List ByteArray) (nur half most : Int) : Prop where
  cs : S.cs = cs
  bnd : S.bnd = [0, nur, nur, nur + half, nur + half, nur + 2 * half]
  few : ∀ r, S.is r = true → 2 + S.num r ≤ most
  none : ∀ r, S.is r = true → ∀ j : Nat, (j : Int) < S.num r → S.refB r j = true → S.get r j = 0

section
variable {S : Hp} {cs : List ByteArray} {nur half most : Int} (h : Ro S cs nur half most)
include h
theorem Ro.b : S.y.fr = 0 ∧ S.y.to = nur ∧ S.h0.fr = nur ∧ S.h0.to = nur + half ∧ S.h1.fr = nur + half ∧ S.h1.to = nur + 2 * half := by
  have := h.bnd
  unfold Hp.bnd at this
  simpa using this
theorem Ro.old : S.old.to - S.old.fr = half ∧ (S.sp (3 - S.oldK)).to - (S.sp (3 - S.oldK)).fr = half := by
  obtain ⟨b1, b2, b3, b4, b5, b6⟩ := h.b
  rw [← sp_oldK]
  rcases oldK_12 S with e | e
  · rw [e]
    refine ⟨?_, ?_⟩
    · show S.h0.to - S.h0.fr = _
      omega
    · show S.h1.to - S.h1.fr = _
      omega
  · rw [e]
    refine ⟨?_, ?_⟩
    · show S.h1.to - S.h1.fr = _
      omega
    · show S.h0.to - S.h0.fr = _
      omega

/-- What can be reached: the roots alone. -/
theorem Ro.reach (hS : S.Ok) (hm : 0 ≤ most) (rs : List Int) : sumW S (S.reach rs) ≤ most * (rs.length : Int) := by
  have h1 : sumW S (S.reach rs) ≤ sumW S (rs.filter fun r => S.is r) := sumW_le S (reach_inN hS rs).1 (fun a ha => by
    refine reach_all (P := fun a => a ∈ rs.filter fun r => S.is r) (fun r hr hi => List.mem_filter.2 ⟨hr, hi⟩) (fun a ha j hj hb hi => ?_) a ha
    have := h.none a (List.mem_filter.1 ha).2 j hj hb
    rw [this] at hi
    have h0 : S.is 0 = false := by unfold Hp.is; simp
    rw [h0] at hi
    cases hi)
  have h2 : ∀ l : List Int, (∀ a ∈ l, S.is a = true) → sumW S l ≤ most * (l.length : Int) := by
    intro l
    induction l with
    | nil => intro _; simp [sumW]
    | cons a t ih =>
      intro ha
      have ih := ih (fun b hb => ha b (by simp [hb]))
      have hw := h.few a (ha a (by simp))
      simp only [sumW, Hp.wd, List.length_cons]
      rw [show ((t.length + 1 : Nat) : Int) = (t.length : Int) + 1 by omega, Int.mul_add, Int.mul_one]
      omega
  have h3 := h2 (rs.filter fun r => S.is r) (fun a ha => (List.mem_filter.1 ha).2)
  have h4 : ((rs.filter fun r => S.is r).length : Int) ≤ (rs.length : Int) := by
    have := List.length_filter_le (fun r => S.is r) rs
    omega
  have h5 := Int.mul_le_mul_of_nonneg_left h4 hm
  omega

/-- A new object. -/
theorem Ro.lay (hS : S.Ok) (hb : S.bg.length = (S.A.length + 63) / 64) {c n : Int} (hc : -2 ≤ c ∧ c < cs.length) (hn : 0 ≤ n ∧ n ≤ 50) (hw : 2 + wantN cs c n ≤ most) {k : Nat} (hk : k < 3) (hr : 2 + wantN cs c n ≤ (S.sp k).to - (S.sp k).top) :
    S.room k c n = true ∧ 0 < S.layR k c n ∧ (S.layK k c n).is (S.layR k c n) = true ∧ Ro (S.layK k c n) cs nur half most ∧ (∀ r, S.is r = true → (S.layK k c n).is r = true) := by
  have e := h.cs
  subst e
  obtain ⟨f1, f2, f3, f4, f5, f6, f7, f8, f9, f10⟩ := new_facts hS hb hk hc.1 hc.2 hn.1 hn.2 hr
  have ht := top0 hS k
  have hold : ∀ r, S.is r = true → (S.layK k c n).is r = true := fun r hr => by rw [f3]; exact laid_is_old hS f4 hb hr
  have hcase : ∀ r, (S.layK k c n).is r = true → S.is r = true ∨ r = S.layR k c n := fun r hr => by
    rw [f3, laid_is hS f4 hb, Bool.or_eq_true, decide_eq_true_eq, ← f2] at hr
    exact hr
  refine ⟨f1, by rw [f2]; omega, f5, ⟨by rw [f3, laid_cs], by rw [layK_bnd hk]; exact h.bnd, fun r hr => ?_, fun r hr j hj hf => ?_⟩, hold⟩
  · rcases hcase r hr with h1 | h1
    · rw [f3, (laid_cls_old hS f4 h1).2]
      exact h.few r h1
    · rw [h1, f7]
      exact hw
  · rcases hcase r hr with h1 | h1
    · rw [f3, (laid_cls_old hS f4 h1).2] at hj
      rw [f3, laid_refB_old hS f4 hb h1] at hf
      rw [f3, laid_get_old hS f4 h1 (by omega) hj]
      exact h.none r h1 j hj hf
    · subst h1
      have := f9 j
      unfold Hp.getV at this
      rw [f8, if_pos (by rw [decide_eq_true_eq]; rw [f7] at hj; omega)] at this
      exact this

/-- A value that is no reference is put. -/
theorem Ro.put (hS : S.Ok) {r i v : Int} (hm : S.mayRaw r i v = true) (hf : S.refB r i = false) : Ro (S.put r i v) cs nur half most := by
  refine ⟨by rw [put_cs]; exact h.cs, by rw [put_bnd]; exact h.bnd, fun q hq => ?_, fun q hq j hj hb => ?_⟩
  · rw [put_is] at hq
    rw [(put_cls hS hm q hq).2]
    exact h.few q hq
  · rw [put_is] at hq
    rw [(put_cls hS hm q hq).2] at hj
    rw [put_refB hS hm] at hb
    rw [put_get hS hm q j hq (by omega) hj, if_neg (fun e => ?_)]
    · exact h.none q hq j hj hb
    · rw [e.1, e.2, hf] at hb
      cases hb
omit h in
theorem ro_may {r i v : Int} (hr : S.is r = true) (h0 : 0 ≤ i) (h1 : i < S.num r) (hf : S.refB r i = false) : S.mayRaw r i v = true := by
  unfold Hp.mayRaw
  rw [hr, hf]
  simp [h0, h1]

/-- Behind a collection. -/
theorem Ro.left {all : Bool} {rs : List Int} {sc : Int → Nat → Bool} {M : Mv} {bg : List Nat} (hd : Done S all rs sc M bg) : Ro (S.left all M bg) cs nur half most := by
  have hz : fwL M.mv 0 = 0 := fwL_not (fun hm => by
    obtain ⟨p, hp, e⟩ := List.mem_map.1 hm
    have h1 := (hd.fin.m.frm p.1 p.2 hp).2
    have h2 := Cx.is (X := S.cx all) (a := p.1) (by first | exact h1 | exact (hd.fin.m.frm p.1 p.2 hp).1)
    rw [e] at h2
    have h0 : S.is 0 = false := by unfold Hp.is; simp
    have h3 : S.is 0 = true := h2
    rw [h0] at h3
    cases h3)
  refine ⟨h.cs, by unfold Hp.left; rw [after_bnd]; exact h.bnd, fun r hr => ?_, fun r hr j hj hb => ?_⟩
  · obtain ⟨a, hi⟩ := (after_is hd.fin r).1 hr
    have h1 := (after_head (mr := List.replicate ((S.A.length + 63) / 64) 0) hd.fin hi).2
    have h2 : (S.left all M bg).num r = S.num a := h1
    rw [h2]
    exact h.few a (hd.fin.m.place hd.fin.ok hi).1
  · obtain ⟨a, hi⟩ := (after_is hd.fin r).1 hr
    have h1 : (S.left all M bg).num r = S.num a := (after_head (mr := List.replicate ((S.A.length + 63) / 64) 0) hd.fin hi).2
    have h2 : (S.left all M bg).refB r j = S.refB a j := after_refB (mr := List.replicate ((S.A.length + 63) / 64) 0) hd.fin hi j
    have ha : S.is a = true := (hd.fin.m.place hd.fin.ok hi).1
    rw [h1] at hj
    rw [h2] at hb
    have h3 := after_get (mr := List.replicate ((S.A.length + 63) / 64) 0) hd.fin hi j hj
    have h4 : S.get a j = 0 := h.none a ha j hj hb
    have h5 : (S.left all M bg).get r j = if (sc r j && S.refB a j) = true then fwL M.mv (S.get a j) else S.get a j := h3
    rw [h5, h4, hz]
    split <;> rfl

/-- Making one never fails. -/
theorem Ro.made (hS : S.Ok) (hI : S.Inv) (hb : S.bg.length = (S.A.length + 63) / 64) {c n : Int} (hc : -2 ≤ c ∧ c < cs.length) (hn : 0 ≤ n ∧ n ≤ 50) (hw : 2 + wantN cs c n ≤ most) {rs : List Int} (hl : rs.length = 6) (hr : ∀ r ∈ rs, r = 0 ∨ S.is r = true) (hh : 7 * most ≤ half)
    {r : Int} {rs' : List Int} {is : Bool} {S' : Hp} (hm : Made S c n rs r rs' is S') (hb' : S'.bg.length = (S'.A.length + 63) / 64) :
    is = true ∧ 0 < r ∧ rs'.length = 6 ∧ S'.is r = true ∧ Ro S' cs nur half most ∧ ∀ q ∈ rs', q = 0 ∨ S'.is q = true := by
  have hwd := words_want (S := S) (c := c) (n := n) hc.1 (by rw [h.cs]; exact hc.2) hn.1 hn.2
  rw [h.cs] at hwd
  have hbd := want_bd hS (c := c) (n := n) (by rw [h.cs]; exact hc.2) hn.1
  rw [h.cs] at hbd
  obtain ⟨b1, b2, b3, b4, b5, b6⟩ := h.b
  have h0 : 0 ≤ most := by omega
  have hra := h.reach hS h0 rs
  rw [hl] at hra
  have hgo := h.old
  have hk0 : S.layAt c n = 0 ∨ S.layAt c n = S.oldK := by unfold Hp.layAt; split <;> simp
  have hk3 : S.layAt c n < 3 := by have := oldK_12 S; omega
  cases hm with
  | none h1 => omega
  | room h1 hrm =>
    have hrm' := hrm
    simp only [Hp.room, decide_eq_true_eq] at hrm'
    obtain ⟨g1, g2, g3, g4, g5⟩ := h.lay hS hb hc hn hw hk3 (by omega)
    exact ⟨rfl, g2, hl, g3, g4, fun q hq => (hr q hq).imp id (g5 q)⟩
  | minor h1 hrm hwy sc M bg hg hd =>
    have hL := h.left hd
    have ok' : (S.left false M bg).Ok := after_ok hd.fin
    have bg' := (layK_bg _ _ _ _).1 hb'
    have hy : (S.left false M bg).y = { S.y with top := S.y.fr } := after_y hd.fin
    have e0 : (S.left false M bg).sp 0 = (S.left false M bg).y := rfl
    obtain ⟨g1, g2, g3, g4, g5⟩ := hL.lay ok' bg' hc hn hw (k := 0) (by omega) (by rw [e0, hy]; show _ ≤ S.y.to - S.y.fr; omega)
    refine ⟨g1, g2, by rw [List.length_map]; exact hl, g3, g4, fun q hq => ?_⟩
    exact (done_root (mr := List.replicate ((S.A.length + 63) / 64) 0) hd hr q hq).imp id (g5 q)
  | major h1 hrm hwy sc M bg hg hd k hk =>
    have hL := h.left hd
    have ok' : (S.left true M bg).Ok := after_ok hd.fin
    have bg' := (layK_bg _ _ _ _).1 hb'
    have hy : (S.left true M bg).y = { S.y with top := S.y.fr } := after_y hd.fin
    have e0 : (S.left true M bg).sp 0 = (S.left true M bg).y := rfl
    have ho := oldK_12 (S.left true M bg)
    obtain ⟨t1, _, _⟩ := done_top hS hI (mr := List.replicate ((S.A.length + 63) / 64) 0) hd
    have t1' : (S.left true M bg).old.top = (S.left true M bg).old.fr + sumW S (S.reach rs) := t1
    have hgo' := hL.old
    obtain ⟨g1, g2, g3, g4, g5⟩ := hL.lay ok' bg' hc hn hw (k := k) (by rw [hk]; split <;> omega) (by
      rw [hk]
      split
      · rw [e0, hy]; show _ ≤ S.y.to - S.y.fr; omega
      · rw [sp_oldK]; omega)
    refine ⟨g1, g2, by rw [List.length_map]; exact hl, g3, g4, fun q hq => ?_⟩
    exact (done_root (mr := List.replicate ((S.A.length + 63) / 64) 0) hd hr q hq).imp id (g5 q)
  | fail h1 hrm hwy hg =>
    exfalso
    unfold Hp.asks Hp.gives at hg
    rw [if_pos rfl, if_pos rfl] at hg
    omega
end
end Go.Proofs.YtneeljhjfmcdoaaDoor

/-! GcRoom: the walk. -/
namespace Go.Proofs.YtneeljhjfmcdoaaDoor
open Go.RowKit

theorem least_at (v v2 : Value) (a b : Int) (w : World) (ha : 0 ≤ a) (hb : 0 ≤ b) (ha2 : a ≤ 100000) (hb2 : b ≤ 100000) :
    Calls Tryd.prog 35 #[.agg #[v, v2], .int .i64 a, .int .i64 b] w fun e w' => e = .returned (.int .i64 (2 * (a + b) + b)) ∧ Upd [] w w' := by
  have h1 : min (max a 0) 1099511627776 = a := by omega
  have h2 : min (max b 0) 1099511627776 = b := by omega
  go_enter Tryd.func35, Tryd.ntmps35
  go_wp2_with fail
  go_ret
  exact ⟨rfl, (Upd.refl _ _).alloc _⟩

theorem make_intsL (w : World) (m : Nat) (mi : Int) (hmi : mi = m) (h : m ≤ 1000000) : (Instr.makeSlice 22 (.int .i64 mi) (.int .i64 mi)).run Tryd.prog w = .ok (.slice (some ⟨w.heap.size, 0, none⟩) m m) (w.alloc (.cells (icells (List.replicate m 0)) 3)) := by
  subst hmi
  obtain ⟨i0, hi, hz0, hz1, hz2⟩ := info_parts Tryd.infoInt
  have hmk := run_make (P := Tryd.prog) w 22 3 i0 (.int .i64 0) Tryd.underlying22 hi hz0 .i64 .i64 (m : Int) (m : Int) (by omega) (by omega) (by rw [hz2]; omega) (by omega)
  rw [hz1, Nat.mul_one] at hmk
  simpa [madeCells_zero] using hmk
/-- A row of zeros that has been made. -/
theorem ownI_zeros (w : World) (base m : Nat) (hb : base ≤ w.heap.size) (hm : m ≤ 1000000) : OwnI (w.alloc (.cells (icells (List.replicate m 0)) 3)) base 3 (.slice (some ⟨w.heap.size, 0, none⟩) m m) (List.replicate m 0) := by
  refine ⟨by simp, .inr ⟨w.heap.size, m, icells (List.replicate m 0), by simp, hb, heap_alloc_new _ _, by simp, by unfold maxLen; omega, by simp [icells], ?_⟩⟩
  simp [icells]
/-- A row's element is set. -/
theorem OwnI.setv {w : World} {base g c : Nat} {e : TypeId} {xs : List Int} {n : Nat} (hn : xs.length = n) (h : OwnI w base e (.slice (some ⟨g, 0, none⟩) n c) xs) (k : Nat) (x : Int) : OwnI (w.setCell ⟨g, k, none⟩ (.int .i64 x)) base e (.slice (some ⟨g, 0, none⟩) n c) (xs.set k x) := by
  subst hn
  rcases h.2 with ⟨h1, _⟩ | ⟨g', cap, cur, h1, h2, h3, h4, h5, h6, h7⟩
  · cases h1
  · injection h1 with e1 e2 e3
    injection e1 with e1
    injection e1 with e1 _ _
    subst e1 e3
    refine ⟨by simp, .inr ⟨g, c, cur.setIfInBounds k (.int .i64 x), by simp, h2, heap_setCell h3 k _, by simpa using h4, h5, by simpa using h6, ?_⟩⟩
    rw [List.length_set]
    rw [Nat.mul_one] at h7 ⊢
    rw [Array.toList_setIfInBounds, List.take_set, h7, List.map_set]

theorem want_mono (cs : List ByteArray) (c n : Int) (hn : n ≤ 15) : wantN cs c n ≤ wantN cs c 15 := by
  unfold wantN
  split <;> omega

/-- At the beginning. -/
theorem ro_start (cs : List ByteArray) (most nur : Int) : Ro (Hp.new cs (2 * (7 * most + nur) + nur) nur) cs nur (7 * most + nur) most := by
  have hz : ∀ r, (Hp.new cs (2 * (7 * most + nur) + nur) nur).is r = false := fun r => by
    unfold Hp.is
    have := bhas_zero (((2 * (7 * most + nur) + nur).toNat + 63) / 64) (r - 1).toNat
    simp only [Hp.new] at this ⊢
    rw [this, Bool.and_false]
  refine ⟨rfl, ?_, fun r hr => ?_, fun r hr => ?_⟩
  · have e : (2 * (7 * most + nur) + nur - nur) / 2 = 7 * most + nur := by omega
    simp only [Hp.bnd, Hp.new, e]
  · rw [hz] at hr; cases hr
  · rw [hz] at hr; cases hr

theorem six_set {S : Hp} {rs : List Int} (hr : ∀ r ∈ rs, r = 0 ∨ S.is r = true) {r : Int} (hi : S.is r = true) (k : Nat) : ∀ q ∈ rs.set k r, q = 0 ∨ S.is q = true := fun q hq => by
  rcases List.mem_or_eq_of_mem_set hq with h1 | h1
  · exact hr q h1
  · exact .inr (by rw [h1]; exact hi)

set_option maxRecDepth 100000 in
set_option maxHeartbeats 16000000 in
theorem roW_any (vc vl : Value) (cs : List ByteArray) (nu : Int) (xs : List Int) (w : World) (hv : ClassAt w vc cs) (h : IntsAt w vl xs) (hT : TzAt w) :
    Calls Tryd.prog 8 #[vc, .int .i64 nu, vl] w fun e w' => e = .returned (.bool true) ∧ Upd [] w w' := by
  obtain ⟨ca, cc, rfl, hca, hcl, hcm, hcx⟩ := hv
  unfold maxLen at hcm
  have HCX := Lib.hid hcx
  clear hcx hca
  obtain ⟨xa, xc, rfl, hlc, hxm, hbd, hcells⟩ := h
  unfold maxLen at hxm
  have HX : Hid (∀ i, i < xs.length → ∃ b o, xa = some ⟨b, o, none⟩ ∧ w.cell? ⟨b, o + i, none⟩ = some (.int .i64 (xs.getD i 0))) := fun i hi => by
    rcases hcells with e | ⟨b, o, e, hc⟩
    · rw [e] at hi; simp at hi
    · exact ⟨b, o, e, hc i hi⟩
  clear hcells hbd hlc
  obtain ⟨i0, hi, hz0, hz1, hz2⟩ := info_parts Tryd.infoClass
  have HI := Lib.hid hi
  have HZ0 := Lib.hid hz0
  have HZ1 := Lib.hid hz1
  have HZ2 := Lib.hid hz2
  clear hi hz0 hz1 hz2
  have hfc := fault_code
  have HF := Lib.hid (first12_any w hT)
  have HT := Lib.hid hT
  have HTW := Lib.hid hT
  clear hT
  go_enter Tryd.func8, Tryd.ntmps8
  go_wp2_with fail
  refine HF.out.mono ?_
  rintro e w1 ⟨rfl, hu1⟩
  clear HF HT
  by_cases h8 : 8 < cs.length
  · have d1 : decide ((8 : Int) < (cs.length : Int)) = true := by simp; omega
    go_wp2_with fail
    go_ret
    exact ⟨rfl, hu1⟩
  have d1 : decide ((8 : Int) < (cs.length : Int)) = false := by simp; omega
  by_cases h200 : 200 < xs.length
  · have d2 : decide ((200 : Int) < (xs.length : Int)) = true := by simp; omega
    go_wp2_with fail
    go_ret
    exact ⟨rfl, hu1⟩
  have d2 : decide ((200 : Int) < (xs.length : Int)) = false := by simp; omega
  go_wp2_with fail
  have hwz1 := hu1.size
  go_loopw [9] (fun iv wr => ∃ (k : Nat) (cv : Value), k ≤ cs.length ∧ iv = .int .i64 k ∧ KPrg w w1 wr cv k (cs.take k)) (fun iv _ => cs.length - (intOf iv).toNat)
  case atStart => exact ⟨0, .slice none 0 0, by omega, rfl, KPrg.start hu1⟩
  case round =>
    obtain ⟨k, cv, hk, rfl, hK⟩ := hrel
    by_cases hlt : k < cs.length
    · as_aux_lemma =>
      obtain ⟨b, o, rfl, hsz, hcell⟩ := HCX.out k hlt
      have hx := hK.u.cell hcell (by simp)
      have HT : Hid (cs.take (k + 1) = cs.take k ++ [cs.getD k ByteArray.empty]) := by
        show _ = _
        rw [List.take_add_one, List.getElem?_eq_getElem hlt, List.getD_eq_getElem?_getD, List.getElem?_eq_getElem hlt]; rfl
      generalize cs.getD k ByteArray.empty = s at hx HT hsz
      obtain ⟨wo, rfl⟩ : ∃ wo : World, wo = wr := ⟨_, rfl⟩
      have hc0 := cell_of hK.p 0
      have hwz := lt_of_heap hK.p
      have HK := Lib.hid hK
      clear hK hcell hsz
      go_wp2_with fail
      go_region_law (refine step_append_own_at rfl (.tmp 50) (.tmp 56) 25 rfl (w1.heap.size + 1 + 1 + 1) 44 i0 (.agg #[.string ByteArray.empty]) 1 16 Tryd.underlying25 HI.out HZ0.out HZ1.out HZ2.out rfl (by decide) cv k ((cs.take k).map Value.string) rfl (HK.out.row.drew.alloc _) ⟨wo.heap.size, 0, none⟩ 1 1 [.string s] rfl rfl (cell_one_new _ _ _) (by simp [Value.oneCell']) (by unfold maxLen; omega) (by omega) (by simp; omega) ?_; intro v' w6 hown' hgrow hat; obtain ⟨⟨g, c', rfl⟩, hc6, hf6, hK6⟩ := (HK.out.upd (((Upd.refl [] wo).alloc (.cells #[.string s] 44)).drew)).push (cs' := cs.take (k + 1)) hgrow (by rw [HT.out]; simpa using hown') hwz1; clear hown' hgrow hat)
      all_goals
        have HK6 := Lib.hid hK6
        clear hK6 hc6 hf6
        go_wp2_with fail
        go_roundw
        case rel => exact ⟨k + 1, _, by omega, by go_num, HK6.out⟩
        case measure => simp [intOf]; omega
    · obtain rfl : k = cs.length := by omega
      rw [List.take_length] at hK
      have hc0 := cell_of hK.p 0
      have hc1 := cell_of hK.p 1
      have hcls := ClassAt.of_row hK.row (fun c hc => by
        obtain ⟨j, hj, rfl⟩ := List.getElem_of_mem hc
        obtain ⟨b, o, _, hsz, _⟩ := HCX.out j hj
        rw [List.getD_eq_getElem?_getD, List.getElem?_eq_getElem hj] at hsz
        exact hsz)
      have hms := meths_one hK.i hK.m
      obtain ⟨wo, rfl⟩ : ∃ wo : World, wo = wr := ⟨_, rfl⟩
      obtain ⟨cp, cpc, rfl⟩ := (show ∃ a c, cv = .slice a cs.length c by obtain ⟨a, c, h, _⟩ := hcls; exact ⟨a, c, h⟩)
      go_wp2_with fail
      refine (light_any ⟨cs, [retMeth]⟩ _ _ _ hcls hms).mono ?_
      rintro e w2 ⟨⟨lb, rfl⟩, hu2⟩
      have hK2 := hK.upd hu2
      have hcls2 := hcls.upd hu2
      have hms2 := hms.upd hu2
      clear hc0 hc1 hcls hms hK hu2
      have hc0 := cell_of hK2.p 0
      have hc1 := cell_of hK2.p 1
      cases lb with
      | false =>
        go_wp2_with fail
        go_ret
        exact ⟨rfl, hK2.u⟩
      | true =>
        go_wp2_with fail
        refine (may_any ⟨cs, [retMeth]⟩ _ _ _ hcls2 hms2).mono ?_
        rintro e w3 ⟨c, s, b, at_, rfl, hia, hmay, hu3⟩
        obtain ⟨sp, sc, rfl⟩ := hia.form
        clear hia
        have hK3 := hK2.upd hu3
        clear hc0 hc1 hcls2 hms2 hK2 hu3
        have hc0 := cell_of hK3.p 0
        have hc1 := cell_of hK3.p 1
        by_cases hz : c = 0
        · subst hz
          have hok := hmay.ok
          have e63 := and_63 nu
          have hn0 := Int.emod_nonneg nu (show (64 : Int) ≠ 0 by omega)
          have hn1 := Int.emod_lt_of_pos nu (show (0 : Int) < 64 by omega)
          have HK := Lib.hid hK3
          have hsm := hok.small
          have hfw := hok.few
          have HSM := Lib.hid hsm
          clear hmay hok hK3 hsm
          go_wp2_with fail
          clear e63
          generalize nu % 64 = nn at hn0 hn1 ⊢
          go_loopw [10, 11] (fun mv iv wr => ∃ (j : Nat) (mo : Int), j ≤ cs.length + 2 ∧ iv = .int .i64 j ∧ mv = .int .i64 mo ∧ 0 ≤ mo ∧ mo ≤ 17 ∧ Hid (∀ c : Int, -2 ≤ c → c < (j : Int) - 2 → 2 + wantN cs c 15 ≤ mo) ∧ Hid (KPrg w w1 wr (.slice cp cs.length cpc) cs.length cs)) (fun _ iv _ => cs.length + 2 - (intOf iv).toNat)
          case atStart => exact ⟨0, 0, by omega, rfl, rfl, by omega, by omega, (fun c h1 h2 => by omega), HK.out⟩
          case round =>
            clear HK hc0 hc1
            obtain ⟨j, mo, hj, rfl, rfl, hmo, hmo2, HW, HK⟩ := hrel
            obtain ⟨wo2, rfl⟩ : ∃ w' : World, w' = wr := ⟨_, rfl⟩
            have hc0 := cell_of HK.out.p 0
            have hc1 := cell_of HK.out.p 1
            obtain ⟨cb, co, hcl⟩ := (ClassAt.of_row HK.out.row (fun c hc => by have := HSM.out c hc; unfold maxLen; omega)).cls
            by_cases hlt : j < cs.length + 2
            · as_aux_lemma =>
              have e1 : decide ((j : Int) < (cs.length : Int) + 2) = true := decide_eq_true (by omega)
              have hwb : 0 ≤ wantN cs ((j : Int) - 2) 15 ∧ wantN cs ((j : Int) - 2) 15 ≤ 15 := by
                unfold wantN
                split
                · have := HSM.out (cs.getD ((j : Int) - 2).toNat ByteArray.empty) (by
                    rw [List.getD_eq_getElem?_getD, List.getElem?_eq_getElem (by omega)]; exact List.getElem_mem _)
                  omega
                · omega
              have HWC := Lib.hid (words3_any (.slice cp cs.length cpc) (.slice (some ⟨w1.heap.size + 1, 0, none⟩) 1 1) cb co ((j : Int) - 2) 15 cs wo2 hcl (by omega) (by omega) HSM.out (by omega) (by omega))
              go_wp2_with fail
              refine HWC.out.mono ?_
              rintro e w4 ⟨rfl, hu4⟩
              obtain ⟨x, hx⟩ : ∃ x, x = 2 + wantN cs ((j : Int) - 2) 15 := ⟨_, rfl⟩
              rw [← hx]
              have hx0 : 2 ≤ x ∧ x ≤ 17 := by omega
              have HXE := Lib.hid hx
              have HK4 := Lib.hid (HK.out.upd hu4)
              clear hx hu4 HWC HK hc0 hc1 hcl
              have HNW : Hid (∀ m' : Int, mo ≤ m' → x ≤ m' → ∀ c : Int, -2 ≤ c → c < ((j + 1 : Nat) : Int) - 2 → 2 + wantN cs c 15 ≤ m') := fun m' h1 h2 c h3 h4 => by
                by_cases hcj : c = (j : Int) - 2
                · rw [hcj, ← HXE.out]; exact h2
                · have := HW.out c h3 (by omega); omega
              go_wp2_with fail
              go_roundw
              case rel => exact ⟨j + 1, max mo x, by omega, by go_num, rfl, by omega, by omega, HNW.out _ (by omega) (by omega), HK4.out⟩
              case measure => simp [intOf]; omega
            · obtain rfl : j = cs.length + 2 := by omega
              have e1 : decide ((((cs.length + 2 : Nat)) : Int) < (cs.length : Int) + 2) = false := decide_eq_false (by omega)
              have HWM : Hid (∀ c n : Int, -2 ≤ c → c < cs.length → n ≤ 15 → 2 + wantN cs c n ≤ mo) := fun c n h1 h2 h3 => by
                have a1 := HW.out c h1 (by omega)
                have a2 := want_mono cs c n h3
                omega
              have hwm : IntKind.i64.wrap (7 * mo) = 7 * mo := IntWalk.i64_in _ (by omega)
              have HLE := Lib.hid (least_at (.slice cp cs.length cpc) (.slice (some ⟨w1.heap.size + 1, 0, none⟩) 1 1) (7 * mo) nn wo2.drew (by omega) hn0 (by omega) (by omega))
              have HNE : Hid (∀ w' : World, Upd [] wo2 w' → Calls Tryd.prog 19 #[.agg #[.slice cp cs.length cpc, .slice (some ⟨w1.heap.size + 1, 0, none⟩) 1 1], .int .i64 (2 * (7 * mo + nn) + nn), .int .i64 nn] w' fun e w'' => ∃ L hv hmv, e = .returned (.tuple #[.pointer (some ⟨L.hb, 0, none⟩), .nilIface]) ∧ GcAt w' w'' L hv hmv (Hp.new cs (2 * (7 * mo + nn) + nn) nn) ∧ Upd [] w' w'') :=
                fun w' hu => newat_any _ _ cb co cs (2 * (7 * mo + nn) + nn) nn w' (hcl.upd hu (by simp)) hn0 (by omega) (by omega) hfw HSM.out ((HTW.out.upd HK.out.u (by simp)).upd hu (by simp))
              clear HW hcl
              go_wp2_with fail
              go_region_held3 (fun w' => w'.cell? ⟨w1.heap.size + 1 + 1, 0, none⟩ = some (.slice cp cs.length cpc) ∧ w'.cell? ⟨w1.heap.size + 1 + 1, 1, none⟩ = some (.slice (some ⟨w1.heap.size + 1, 0, none⟩) 1 1))
                (first | exact ⟨hl0, hl1⟩ | exact ⟨hk0, hk1⟩ | exact ⟨hc0, hc1⟩)
                (first | (go_at_call 35; refine HLE.out.mono ?_; rintro e w4 ⟨rfl, hu4⟩; have hk0 := hu4.cell (p := ⟨w1.heap.size + 1 + 1, 0, none⟩) hc0 (by simp); have hk1 := hu4.cell (p := ⟨w1.heap.size + 1 + 1, 1, none⟩) hc1 (by simp)) | (go_at_call 19; refine (HNE.out _ ((Upd.refl [] wo2).drew.trans hu4)).mono ?_; rintro e w5 ⟨L, hv, hmv, rfl, hg, hu5⟩; have hl0 := hu5.cell hk0 (by simp); have hl1 := hu5.cell hk1 (by simp)))
              have HU4 := Lib.hid (HK.out.u.trans ((Upd.refl [] wo2).drew.trans hu4))
              have HG5 := Lib.hid hg
              have HRO := Lib.hid (ro_start cs mo nn)
              have hw45 : w4.heap.size ≤ w5.heap.size := hu5.size
              clear hl0 hl1 hk0 hk1 hc0 hc1 hu4 hu5 hg HLE HNE hwm
              generalize Hp.new cs (2 * (7 * mo + nn) + nn) nn = S0 at HG5 HRO
              obtain ⟨m6, hm6⟩ : ∃ m : Nat, m = 6 := ⟨_, rfl⟩
              have hmk := make_intsL w5 m6 6 (by omega) (by omega)
              have HO6 := Lib.hid (ownI_zeros w5 w5.heap.size m6 (Nat.le_refl _) (by omega))
              have HG6 := Lib.hid (HG5.out.upd ((Upd.refl [] w5).alloc (.cells (icells (List.replicate m6 0)) 3)))
              have HR6 : Hid (∀ q ∈ List.replicate m6 (0 : Int), q = 0 ∨ S0.is q = true) := fun q hq => .inl (List.eq_of_mem_replicate hq)
              have HL6 : Hid ((List.replicate m6 (0 : Int)).length = 6) := by show _ = _; simp [hm6]
              have hw6 : w5.heap.size ≤ (w5.alloc (.cells (icells (List.replicate m6 0)) 3)).heap.size := by simp
              have HTL : Hid (1 < w4.heap.size) := Nat.lt_of_lt_of_le HTW.out.lt HU4.out.size
              clear hm6
              go_wp2_with fail
              clear hmk
              generalize w5.alloc (.cells (icells (List.replicate m6 0)) 3) = w6 at HO6 HG6 hw6 ⊢
              go_loopw [14, 15] (fun rv iv wr => ∃ (i : Nat) (S : Hp) (L' : HL) (rs : List Int), i ≤ xs.length ∧ iv = .int .i64 i ∧ Hid (L'.hb = L.hb ∧ L'.cb = L.cb) ∧ Hid (OwnI wr w5.heap.size 3 rv rs) ∧ Hid (rs.length = 6) ∧ Hid (GcAt w4 wr L' hv hmv S) ∧ Hid (Ro S cs nn (7 * mo + nn) mo) ∧ Hid (∀ q ∈ rs, q = 0 ∨ S.is q = true) ∧ w5.heap.size ≤ wr.heap.size) (fun _ iv _ => xs.length - (intOf iv).toNat)
              case atStart => exact ⟨0, S0, L, List.replicate m6 0, by omega, rfl, ⟨rfl, rfl⟩, HO6.out, HL6.out, HG6.out, HRO.out, HR6.out, hw6⟩
              case round =>
                have HCB : Hid (L.cb < w5.heap.size) := HG5.out.hi _ (by simp [HL.all])
                clear HO6 HL6 HG6 HRO HR6 hw6 HG5
                obtain ⟨i, S, L', rs, hi, rfl, HLL, HO, HLR, HG, HR, HRT, hwo⟩ := hrel
                obtain ⟨wi, rfl⟩ : ∃ w' : World, w' = wr := ⟨_, rfl⟩
                by_cases hlt : i < xs.length
                · have e2 : decide ((i : Int) < (xs.length : Int)) = true := decide_eq_true (by omega)
                  obtain ⟨bb, bo, rfl, hc⟩ := HX.out i hlt
                  have HCX0 : Hid (w.cell? ⟨bb, bo + i, none⟩ = some (.int .i64 (xs.getD i 0))) := hc
                  clear hc
                  generalize xs.getD i 0 = x at HCX0
                  have hcx := (HU4.out.trans HG.out.up).cell HCX0.out (by simp)
                  have hq0 := Int.emod_nonneg x (show ((cs.length : Int) + 2) ≠ 0 by omega)
                  have hq1 := Int.emod_lt_of_pos x (show (0 : Int) < (cs.length : Int) + 2 by omega)
                  obtain ⟨pr, cr, rb, rfl, hpr, hcr⟩ := own_arg2 HO.out
                  have HPR := Lib.hid hpr
                  have HCR := Lib.hid hcr
                  clear hpr hcr
                  rw [HLR.out]
                  go_wp2_with fail
                  refine (number_any x ((cs.length : Int) + 2) wi (by omega) (by omega)).mono ?_
                  rintro e w' ⟨rfl, rfl⟩
                  generalize x % ((cs.length : Int) + 2) = q at hq0 hq1 ⊢
                  have e15 := and_15 (x / 16)
                  have hz0 := Int.emod_nonneg (x / 16) (show (16 : Int) ≠ 0 by omega)
                  have hz1 := Int.emod_lt_of_pos (x / 16) (show (0 : Int) < 16 by omega)
                  go_wp2_with fail
                  clear e15 hcx
                  generalize x / 16 % 16 = nm at hz0 hz1 ⊢
                  have HM := Lib.hid (make_any w4 L' hv hmv S (q - 2) nm pr cr rb rs wi HG.out (by have := HLR.out; omega) HPR.out HCR.out (HG.out.rng HRT.out))
                  rw [HLL.out.1, HLR.out] at HM
                  clear HPR HCR
                  refine HM.out.mono ?_
                  rintro e w7 ⟨v, L2, r, rs', is, S', u, rfl, hme⟩
                  obtain ⟨rfl, hown, hmade, hg7, hb7, hs7, hu7, hcb7⟩ := hme
                  obtain ⟨rfl, hr0, hl6, his, hR7, hrt7⟩ := HR.out.made HG.out.hp.ok HG.out.inv HG.out.hp.bg.2.2.2.1 (c := q - 2) (n := nm) (by omega) (by omega) (HWM.out _ _ (by omega) (by omega) (by omega)) HLR.out HRT.out (by omega) hmade hg7.hp.bg.2.2.2.1
                  have HLL7 : Hid (L2.hb = L.hb ∧ L2.cb = L.cb) := ⟨hb7.trans HLL.out.1, hcb7.trans HLL.out.2⟩
                  have hw7 : w5.heap.size ≤ w7.heap.size := Nat.le_trans hwo hu7.size
                  have hO7 : OwnI w7 w5.heap.size 3 u rs' := row_base hown hwo
                  rcases hO7.form with ⟨_, h2⟩ | ⟨g, c7, rfl, hc7, hgb, hgl, _⟩
                  · rw [h2] at hl6; simp at hl6
                  rw [hl6] at hc7 hO7
                  rw [hl6]
                  have hrd : r ≤ 65536 := by
                    have := hg7.hp.ok.le his
                    have := hg7.hp.ok.len
                    omega
                  have HGF := Lib.hid (hg7.free hO7)
                  have HGA := Lib.hid (hg7.freeAll hO7 (by rw [HLL7.out.2]; exact HCB.out))
                  have HO7 := Lib.hid hO7
                  have HG7 := Lib.hid hg7
                  have HR7 := Lib.hid hR7
                  have HRT7 := Lib.hid hrt7
                  have HIS7 := Lib.hid his
                  have HL6 := Lib.hid hl6
                  have HIL : Hid (i < xs.length) := hlt
                  clear hown hmade hg7 hb7 hs7 hu7 hcb7 hR7 hrt7 his hO7 hl6 HM HR HRT HG HO HLR HLL
                  have d3 : decide (r ≤ 0) = false := decide_eq_false (by omega)
                  have d4 : (((6 : Nat) : Int) != 6) = false := by simp
                  have HIC := Lib.hid (is_any L2 hv hmv S' r w7 HG7.out.hp (by omega))
                  rw [HLL7.out.1, HIS7.out] at HIC
                  simp only [if_true] at HIC
                  obtain ⟨N, hN⟩ : ∃ N : Nat, S'.num r = (N : Int) := ⟨(S'.num r).toNat, by have := (HG7.out.hp.ok.le HIS7.out).2.2.1; omega⟩
                  rw [hN] at HIC
                  have hN17 : N ≤ 17 := by have := HR7.out.few r HIS7.out; omega
                  have HN := Lib.hid hN
                  clear hN
                  go_wp2_with fail
                  refine HIC.out.mono ?_
                  rintro e w' ⟨rfl, rfl⟩
                  clear HIC
                  go_wp2_with fail
                  go_loopw [23] (fun kv wr => ∃ (k : Nat) (S4 : Hp), k ≤ N ∧ kv = .int .i64 k ∧ Hid (GcAt w4 wr L2 hv hmv S4) ∧ Hid (Ro S4 cs nn (7 * mo + nn) mo) ∧ Hid (S4.is r = true ∧ S4.num r = (N : Int)) ∧ Hid (∀ q ∈ rs', q = 0 ∨ S4.is q = true) ∧ Hid (OwnI wr w5.heap.size 3 (.slice (some ⟨g, 0, none⟩) 6 c7) rs') ∧ w5.heap.size ≤ wr.heap.size) (fun kv _ => N - (intOf kv).toNat)
                  case atStart => exact ⟨0, S', by omega, rfl, HG7.out, HR7.out, ⟨HIS7.out, HN.out⟩, HRT7.out, HO7.out, hw7⟩
                  case round =>
                    clear HG7 HR7 HIS7 HN HRT7 HO7
                    obtain ⟨k, S4, hk, rfl, HG4, HR4, HI4, HRT4, HO4, hw4⟩ := hrel
                    obtain ⟨wk, rfl⟩ : ∃ w' : World, w' = wr := ⟨_, rfl⟩
                    by_cases hkl : k < N
                    · as_aux_lemma =>
                      have e3 : decide ((k : Int) < (N : Int)) = true := decide_eq_true (by omega)
                      have HRC := Lib.hid (ref_any L2 hv hmv S4 r k wk HG4.out.hp (by omega))
                      rw [HLL7.out.1] at HRC
                      cases hf : S4.refB r k with
                      | true =>
                        rw [hf] at HRC
                        go_wp2_with fail
                        refine HRC.out.mono ?_
                        rintro e w' ⟨rfl, rfl⟩
                        go_wp2_with fail
                        go_roundw
                        case rel => exact ⟨k + 1, S4, by omega, by go_num, HG4.out, HR4.out, HI4.out, HRT4.out, HO4.out, hw4⟩
                        case measure => simp [intOf]; omega
                      | false =>
                        rw [hf] at HRC
                        have hm1 : S4.mayRaw r k (i : Int) = true := ro_may HI4.out.1 (by omega) (by rw [HI4.out.2]; omega) hf
                        have hp := gput HG4.out r k (i : Int) (by omega) (by omega)
                        rw [hm1, if_pos rfl, HLL7.out.1] at hp
                        have HPC := Lib.hid hp
                        have HR5 := Lib.hid (HR4.out.put HG4.out.hp.ok hm1 hf)
                        have HI5 : Hid ((S4.put r k (i : Int)).is r = true ∧ (S4.put r k (i : Int)).num r = (N : Int)) := ⟨by rw [put_is]; exact HI4.out.1, by rw [(put_cls HG4.out.hp.ok hm1 r HI4.out.1).2]; exact HI4.out.2⟩
                        have HRT5 : Hid (∀ q ∈ rs', q = 0 ∨ (S4.put r k (i : Int)).is q = true) := fun q hq => by rw [put_is]; exact HRT4.out q hq
                        clear hp hm1 hf
                        go_wp2_with fail
                        refine HRC.out.mono ?_
                        rintro e w' ⟨rfl, rfl⟩
                        go_wp2_with fail
                        refine HPC.out.mono ?_
                        rintro e w8 ⟨rfl, hg8, hu8⟩
                        have HG8 := Lib.hid hg8
                        have HO8 := Lib.hid (HO4.out.upd hu8 HGF.out)
                        have hw8 : w5.heap.size ≤ w8.heap.size := Nat.le_trans hw4 hu8.size
                        clear hg8 hu8 HPC
                        go_wp2_with fail
                        go_roundw
                        case rel => exact ⟨k + 1, _, by omega, by go_num, HG8.out, HR5.out, HI5.out, HRT5.out, HO8.out, hw8⟩
                        case measure => simp [intOf]; omega
                    · obtain rfl : k = N := by omega
                      have e3 : decide ((k : Int) < (k : Int)) = false := decide_eq_false (by omega)
                      have hcx := (HU4.out.trans HG4.out.up).cell HCX0.out (by simp)
                      have e8 : bits BinOp.and IntKind.i64 (x / 256) 3 = x / 256 % 4 := and_mask (x / 256) 2 3 (by omega) (by decide)
                      have hy0 := Int.emod_nonneg (x / 256) (show (4 : Int) ≠ 0 by omega)
                      have hy1 := Int.emod_lt_of_pos (x / 256) (show (0 : Int) < 4 by omega)
                      obtain ⟨y, hy⟩ : ∃ y : Nat, x / 256 % 4 = (y : Int) := ⟨(x / 256 % 4).toNat, by omega⟩
                      rw [hy] at e8 hy0 hy1
                      have hy6 : y < 6 := by omega
                      clear hy
                      rcases HO4.out.2 with ⟨h1, _⟩ | ⟨g', cap, cur, h1, h2, h3, _⟩
                      · cases h1
                      obtain rfl : g = g' := by injection h1 with e1 _ _; injection e1 with e1; injection e1
                      have hfz := froz_of h3 y
                      have hcy : wk.cell? ⟨g, y, none⟩ = some (.int .i64 (rs'.getD y 0)) := by
                        have := HO4.out.cells (g := g) rfl y (.int .i64 (rs'.getD y 0)) (by
                          rw [List.getElem?_map, List.getD_eq_getElem?_getD, List.getElem?_eq_getElem (by have := HL6.out; omega)]; rfl)
                        rwa [Addr.add_lit, Nat.zero_add] at this
                      have hus := (Upd.refl [g] wk).setCell (p := ⟨g, y, none⟩) (.inl (by simp)) (.int .i64 r)
                      have htl := HTL.out
                      have HG9 := Lib.hid (HG4.out.updT hus (fun j hj => by
                        simp only [List.mem_singleton] at hj
                        subst hj
                        exact ⟨HGA.out j rfl, by omega, by omega⟩))
                      have HO9 := Lib.hid (HO4.out.setv HL6.out y r)
                      have HRT9 : Hid (∀ q ∈ rs'.set y r, q = 0 ∨ S4.is q = true) := six_set HRT4.out HI4.out.1 y
                      have HL9 : Hid ((rs'.set y r).length = 6) := by show _ = _; rw [List.length_set]; exact HL6.out
                      have hw9 : w5.heap.size ≤ (wk.setCell ⟨g, y, none⟩ (.int .i64 r)).heap.size := Nat.le_trans hw4 hus.size
                      clear h1 h2 h3 hus htl
                      go_wp2_with fail
                      go_roundw
                      case rel => exact ⟨i + 1, S4, L2, rs'.set y r, by have := HIL.out; omega, by go_num, HLL7.out, HO9.out, HL9.out, HG9.out, HR4.out, HRT9.out, hw9⟩
                      case measure => have := HIL.out; simp [intOf]; omega
                · obtain rfl : i = xs.length := by omega
                  have e2 : decide ((xs.length : Int) < (xs.length : Int)) = false := decide_eq_false (by omega)
                  obtain ⟨pr, cr, rb, rfl, hpr, hcr⟩ := own_arg2 HO.out
                  have HVC := Lib.hid (gverify HG.out pr cr rb rs (by have := HLR.out; omega) (hpr.imp And.left id) hcr HRT.out)
                  rw [HLL.out.1, HLR.out] at HVC
                  rw [HLR.out]
                  clear hpr hcr
                  go_wp2_with fail
                  refine HVC.out.mono ?_
                  rintro e wF ⟨rfl, huF⟩
                  have HU := Lib.hid (HU4.out.trans (HG.out.up.trans huF))
                  clear huF HVC
                  go_wp2_with fail
                  go_ret
                  exact ⟨rfl, HU.out⟩
        · have hbne : (c != 0) = true := by simpa using hz
          go_wp2_with fail
          go_ret
          exact ⟨rfl, hK3.u⟩
end Go.Proofs.YtneeljhjfmcdoaaDoor
