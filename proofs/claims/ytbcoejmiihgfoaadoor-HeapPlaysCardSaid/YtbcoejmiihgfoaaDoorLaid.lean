/- The heap: what a new object, and a value put, leave of the others. -/
import Derived.Test.YtbcoejmiihgfoaaDoorWide
namespace Go.Proofs.YtbcoejmiihgfoaaDoor
open Go.RowKit

theorem is_bhas {S : Hp} {q : Int} (hq : S.is q = true) : bhas S.bg (q - 1).toNat = true ∧ 1 ≤ q := by
 simp only [Hp.is, Bool.and_eq_true, decide_eq_true_eq] at hq
 exact ⟨hq.2, hq.1⟩

theorem top0 {S : Hp} (hS : S.Ok) (k : Nat) : 0 ≤ (S.sp k).top := by
 obtain ⟨s0, s1, s2, s3⟩ := hS.sp0 k
 omega

section
variable {S : Hp} (hS : S.Ok) {k : Nat} {c wd : Int} (f : Fits S k c wd)
include hS f

theorem laid_is (hb : S.bg.length = (S.A.length + 63) / 64) (q : Int) : (S.laid k c wd).is q = (S.is q || decide (q = (S.sp k).top + 1)) := by
 have h0 := top0 hS k
 unfold Hp.is
 rw [laid_has hS f hb]
 by_cases h1 : 1 ≤ q
 ·rw [decide_eq_true h1, Bool.true_and, Bool.true_and]
  congr 1
  rw [decide_eq_decide]
  omega
 ·rw [decide_eq_false h1, Bool.false_and, Bool.false_and, Bool.false_or, eq_comm, decide_eq_false_iff_not]
  omega

theorem laid_is_old (hb : S.bg.length = (S.A.length + 63) / 64) {q : Int} (hq : S.is q = true) : (S.laid k c wd).is q = true := by
 rw [laid_is hS f hb, hq]; rfl
theorem laid_is_new (hb : S.bg.length = (S.A.length + 63) / 64) : (S.laid k c wd).is ((S.sp k).top + 1) = true := by
 rw [laid_is hS f hb]; simp

theorem laid_new_not : S.is ((S.sp k).top + 1) = false := by
 have h0 := top0 hS k
 unfold Hp.is
 rw [show ((S.sp k).top + 1 - 1).toNat = (S.sp k).top.toNat by omega, laid_new hS f]
 simp

theorem laid_cls_old {q : Int} (hq : S.is q = true) : (S.laid k c wd).cls q = S.cls q ∧ (S.laid k c wd).num q = S.num q := by
 obtain ⟨h1, h2⟩ := is_bhas hq
 have := laid_old hS f h1 (q - 1).toNat (Nat.le_refl _) (by have := unN_nonneg (S.A.getD (q - 1).toNat 0); omega)
 unfold Hp.cls Hp.num
 rw [this]
 exact ⟨rfl, rfl⟩

theorem laid_cls_new : (S.laid k c wd).cls ((S.sp k).top + 1) = c ∧ (S.laid k c wd).num ((S.sp k).top + 1) = wd - 2 := by
 have h0 := top0 hS k
 have h1 := f.w1
 have h2 := f.w2
 unfold Hp.cls Hp.num
 rw [show ((S.sp k).top + 1 - 1).toNat = (S.sp k).top.toNat by omega, laid_get hS f, if_pos (by omega)]
 exact ⟨unC_pack _ _ (by omega) (by omega), unN_pack _ _ (by omega) (by omega)⟩

theorem laid_get_old {q j : Int} (hq : S.is q = true) (hj : 0 ≤ j) (hj2 : j < S.num q) : (S.laid k c wd).get q j = S.get q j := by
 obtain ⟨h1, h2⟩ := is_bhas hq
 unfold Hp.get
 unfold Hp.num at hj2
 exact laid_old hS f h1 _ (by omega) (by omega)

theorem laid_get_new {j : Int} (hj : 0 ≤ j) (hj2 : j < wd - 2) : (S.laid k c wd).get ((S.sp k).top + 1) j = 0 := by
 have h0 := top0 hS k
 unfold Hp.get
 rw [laid_get hS f, if_neg (by omega), if_pos (by omega)]

theorem laid_refB_old {q : Int} (hb : S.bg.length = (S.A.length + 63) / 64) (hq : S.is q = true) (j : Int) : (S.laid k c wd).refB q j = S.refB q j := by
 unfold Hp.refB
 rw [laid_is_old hS f hb hq, hq, (laid_cls_old hS f hq).1, (laid_cls_old hS f hq).2, laid_cs]

theorem laid_refB_new (hb : S.bg.length = (S.A.length + 63) / 64) (j : Int) :
  (S.laid k c wd).refB ((S.sp k).top + 1) j = (decide (0 ≤ j ∧ j < wd - 2) && (decide (c = -2) || decide (0 ≤ c) && decide (((S.cs.getD c.toNat ByteArray.empty).get! j.toNat) = 82))) := by
 unfold Hp.refB
 rw [laid_is_new hS f hb, (laid_cls_new hS f).1, (laid_cls_new hS f).2, laid_cs, Bool.true_and]

theorem laid_inY_old {q : Int} (hb : S.bg.length = (S.A.length + 63) / 64) (hq : S.is q = true) : (S.laid k c wd).inY q = S.inY q := by
 obtain ⟨h1, h2⟩ := is_bhas hq
 unfold Hp.inY
 rw [laid_is_old hS f hb hq, hq, Bool.true_and, Bool.true_and, decide_eq_decide]
 have e := laid_sp S k 0 c wd f.k3 (by omega)
 simp only [Hp.sp] at e
 obtain ⟨j, hj, u1, u2⟩ := hS.used _ h1
 have hn := unN_nonneg (S.A.getD (q - 1).toNat 0)
 have hr := f.room
 have hw := f.w1
 rw [e]
 split
 ·rename_i hk0
  subst hk0
  simp only [Hp.sp] at hr ⊢
  obtain ⟨s0, s1, s2, s3⟩ := hS.sp0 0
  simp only [Hp.sp] at s0 s1 s2 s3
  have ht : (S.sp j).top ≤ (S.sp j).to := (hS.sp0 j).2.2.1
  by_cases hj0 : j = 0
  ·subst hj0
   simp only [Hp.sp] at u1 u2
   omega
  ·have := hS.apart hj (by omega : 0 < 3) hj0
   have hjf := (hS.sp0 j).2.1
   have e0 : S.sp 0 = S.y := rfl
   rw [e0] at this
   omega
 ·exact Iff.rfl

theorem laid_inY_new (hb : S.bg.length = (S.A.length + 63) / 64) : (S.laid k c wd).inY ((S.sp k).top + 1) = decide (k = 0) := by
 unfold Hp.inY
 rw [laid_is_new hS f hb, Bool.true_and, decide_eq_decide]
 have e : (S.laid k c wd).y = if 0 = k then { S.sp k with top := (S.sp k).top + wd } else S.y := laid_sp S k 0 c wd f.k3 (by omega)
 have e1 : S.sp 0 = S.y := rfl
 have hr := f.room
 have hw := f.w1
 obtain ⟨s0, s1, s2, s3⟩ := hS.sp0 0
 obtain ⟨t0, t1, t2, t3⟩ := hS.sp0 k
 have hk3 := f.k3
 rw [e]
 split
 ·rename_i hk0
  subst hk0
  constructor
  ·intro _; trivial
  ·intro _
   rw [e1] at hr s1 ⊢
   dsimp only
   omega
 ·rename_i hk0
  have := hS.apart hk3 (by omega : 0 < 3) (fun e => hk0 e.symm)
  rw [e1] at this
  constructor
  ·intro ⟨h1, h2⟩
   exfalso
   rw [e1] at s0 s1 s2 s3
   omega
  ·intro h; exact absurd h.symm hk0

end

section
variable (S : Hp) (r i v q j : Int)
theorem put_A : (S.put r i v).A = (S.raw r i v).A := by unfold Hp.put; split <;> rfl
theorem put_bg : (S.put r i v).bg = S.bg := by unfold Hp.put; split <;> rfl
@[simp] theorem put_cs : (S.put r i v).cs = S.cs := by unfold Hp.put; split <;> rfl
@[simp] theorem put_is : (S.put r i v).is q = S.is q := by unfold Hp.put; split <;> rfl
theorem put_cls' : (S.put r i v).cls q = (S.raw r i v).cls q := by unfold Hp.put; split <;> rfl
theorem put_num' : (S.put r i v).num q = (S.raw r i v).num q := by unfold Hp.put; split <;> rfl
theorem put_get' : (S.put r i v).get q j = (S.raw r i v).get q j := by unfold Hp.put; split <;> rfl
theorem put_refB' : (S.put r i v).refB q j = (S.raw r i v).refB q j := by unfold Hp.put; split <;> rfl
@[simp] theorem put_inY : (S.put r i v).inY q = S.inY q := by unfold Hp.put; split <;> rfl
@[simp] theorem put_y : (S.put r i v).y = S.y := by unfold Hp.put; split <;> rfl
@[simp] theorem put_old : (S.put r i v).old = S.old := by unfold Hp.put; split <;> rfl
@[simp] theorem put_now : (S.put r i v).now = S.now := by unfold Hp.put; split <;> rfl
@[simp] theorem put_h0 : (S.put r i v).h0 = S.h0 := by unfold Hp.put; split <;> rfl
@[simp] theorem put_h1 : (S.put r i v).h1 = S.h1 := by unfold Hp.put; split <;> rfl
@[simp] theorem put_lenA : (S.put r i v).A.length = S.A.length := by rw [put_A]; simp
end

section
variable {S : Hp} (hS : S.Ok) {r i v : Int} (hm : S.mayRaw r i v = true)
include hS hm
omit hS in
theorem mayRaw_at : S.is r = true ∧ 0 ≤ i ∧ i < S.num r := by
 simp only [Hp.mayRaw, Bool.and_eq_true, decide_eq_true_eq] at hm
 exact hm.1
theorem put_cls (q : Int) (hq : S.is q = true) : (S.put r i v).cls q = S.cls q ∧ (S.put r i v).num q = S.num q := by
 obtain ⟨h0, h1, h2⟩ := mayRaw_at hm
 rw [put_cls', put_num']
 exact raw_cls hS h0 h1 h2 q hq
theorem put_refB (q j : Int) : (S.put r i v).refB q j = S.refB q j := by
 obtain ⟨h0, h1, h2⟩ := mayRaw_at hm
 rw [put_refB']
 exact raw_refB hS h0 h1 h2 q j
theorem put_get (q j : Int) (hq : S.is q = true) (hj : 0 ≤ j) (hj2 : j < S.num q) : (S.put r i v).get q j = if q = r ∧ j = i then v else S.get q j := by
 obtain ⟨h0, h1, h2⟩ := mayRaw_at hm
 rw [put_get']
 exact raw_get hS h0 h1 h2 q j hq hj hj2
end

end Go.Proofs.YtbcoejmiihgfoaaDoor
