/- GcAgain: the heap in its loops, in plain Lean. -/
import Derived.Test.YtneeljhjfmcdoaaDoorGcL
import Derived.Test.YtneeljhjfmcdoaaDoorMake
namespace Go.Proofs.YtneeljhjfmcdoaaDoor
open Go.RowKit

/-- The class with two references. -/
def RRc : ByteArray := ⟨#[82, 82]⟩
theorem want_RR (S : Hp) (h : S.cs = [RRc]) : wantN S.cs 0 0 = 2 := by rw [h]; decide

/-- The heap behind i rounds of the first loop. -/
structure AgA (S : Hp) (i : Nat) : Prop where
  now : S.now = 0
  cs : S.cs = [RRc]
  bnd : S.bnd = [0, 100, 100, 450, 450, 800]
  t : S.y.top = 4 * (i : Int)
  o : S.h0.top = 100 ∧ S.h1.top = 450
  objs : ∀ j, j < i → S.is (4 * (j : Int) + 1) = true ∧ S.cls (4 * (j : Int) + 1) = 0 ∧ S.num (4 * (j : Int) + 1) = 2

theorem agA_new : AgA (Hp.new [RRc] 800 100) 0 := ⟨rfl, rfl, rfl, rfl, ⟨rfl, rfl⟩, fun _ hj => absurd hj (Nat.not_lt_zero _)⟩
theorem AgA.b {S : Hp} {i : Nat} (h : AgA S i) : S.y.fr = 0 ∧ S.y.to = 100 ∧ S.h0.fr = 100 ∧ S.h0.to = 450 ∧ S.h1.fr = 450 ∧ S.h1.to = 800 := by
  have := h.bnd
  unfold Hp.bnd at this
  simpa using this

/-- Make lays a young one. -/
theorem ag_made {S : Hp} {i : Nat} (h : AgA S i) (hS : S.Ok) (hb : S.bg.length = (S.A.length + 63) / 64) (hi : i < 16) {rs rs' : List Int} {r : Int} {is : Bool} {S' : Hp} (hm : Made S 0 0 rs r rs' is S') :
    is = true ∧ r = 4 * (i : Int) + 1 ∧ rs' = rs ∧ AgA S' (i + 1) := by
  obtain ⟨b1, b2, b3, b4, b5, b6⟩ := h.b
  have hc := h.cs
  have e0 : S.sp 0 = S.y := rfl
  obtain ⟨f1, f2, f3, f4, f5, f6, f7, _⟩ := new_facts hS hb (k := 0) (by omega) (c := 0) (n := 0) (by omega) (by rw [hc]; simp) (by omega) (by omega) (by rw [want_RR S hc, e0, b2, h.t]; omega)
  rw [want_RR S hc] at f3 f4 f7
  have hw := words_want (S := S) (c := 0) (n := 0) (by omega) (by rw [hc]; simp) (by omega) (by omega)
  rw [want_RR S hc] at hw
  have ha : S.layAt 0 0 = 0 := by unfold Hp.layAt; rw [if_pos (by rw [hw, b1, b2]; omega)]
  have eR : S.layR 0 0 0 = 4 * (i : Int) + 1 := by rw [f2, e0, h.t]
  rw [eR] at f5 f6 f7
  have hsp := laid_sp S 0 0 0 4 (by omega) (by omega)
  rw [if_pos rfl, e0] at hsp
  have hs1 := laid_sp S 0 1 0 4 (by omega) (by omega)
  rw [if_neg (by omega)] at hs1
  have hs2 := laid_sp S 0 2 0 4 (by omega) (by omega)
  rw [if_neg (by omega)] at hs2
  have A : AgA (S.layK 0 0 0) (i + 1) := by
    refine ⟨?_, ?_, by rw [layK_bnd (by omega)]; exact h.bnd, ?_, ?_, ?_⟩
    · rw [f3, laid_now]; exact h.now
    · rw [f3, laid_cs]; exact hc
    · rw [f3, show (S.laid 0 0 (2 + 2)).y = _ from hsp]
      show S.y.top + 4 = _
      rw [h.t]; omega
    · rw [f3, show (S.laid 0 0 (2 + 2)).h0 = S.h0 from hs1, show (S.laid 0 0 (2 + 2)).h1 = S.h1 from hs2]
      exact h.o
    · intro j hj
      by_cases hji : j = i
      · subst hji; exact ⟨f5, f6, f7⟩
      · obtain ⟨o1, o2, o3⟩ := h.objs j (by omega)
        rw [f3]
        have := laid_cls_old hS f4 o1
        exact ⟨laid_is_old hS f4 hb o1, by rw [this.1]; exact o2, by rw [this.2]; exact o3⟩
  cases hm with
  | none h1 => omega
  | room h1 hr =>
    rw [ha] at hr ⊢
    exact ⟨rfl, eR, rfl, A⟩
  | minor h1 hr => rw [ha, f1] at hr; cases hr
  | major h1 hr => rw [ha, f1] at hr; cases hr
  | fail h1 hr => rw [ha, f1] at hr; cases hr

theorem ag_ref {S : Hp} {m : Nat} (h : AgA S m) (j : Nat) (hj : j < m) (k : Int) (hk : k = 0 ∨ k = 1) : S.refB (4 * (j : Int) + 1) k = true := by
  obtain ⟨o1, o2, o3⟩ := h.objs j hj
  unfold Hp.refB
  rw [o1, o2, o3, h.cs]
  rcases hk with rfl | rfl <;> decide
/-- A reference is put. -/
theorem ag_put {S : Hp} {m : Nat} (h : AgA S m) (hS : S.Ok) (i j : Nat) (hi : i < m) (hj : j < m) (hm : m ≤ 16) (k : Int) (hk : k = 0 ∨ k = 1) :
    S.mayRaw (4 * (i : Int) + 1) k (4 * (j : Int) + 1) = true ∧ AgA (S.put (4 * (i : Int) + 1) k (4 * (j : Int) + 1)) m := by
  obtain ⟨o1, o2, o3⟩ := h.objs i hi
  have m1 : S.mayRaw (4 * (i : Int) + 1) k (4 * (j : Int) + 1) = true := by
    unfold Hp.mayRaw
    rw [o1, o3, ag_ref h i hi k hk, (h.objs j hj).1, decide_eq_true (show 1 ≤ 4 * (j : Int) + 1 ∧ 4 * (j : Int) + 1 ≤ 65536 by omega), decide_eq_true (show 0 ≤ k ∧ k < 2 by omega)]
    simp
  refine ⟨m1, ⟨by rw [put_now]; exact h.now, by rw [put_cs]; exact h.cs, by rw [put_bnd]; exact h.bnd, by rw [put_y]; exact h.t, by rw [put_h0, put_h1]; exact h.o, fun j hj => ?_⟩⟩
  obtain ⟨q1, q2, q3⟩ := h.objs j hj
  have := put_cls hS m1 _ q1
  exact ⟨by rw [put_is]; exact q1, by rw [this.1]; exact q2, by rw [this.2]; exact q3⟩

/-- The roots behind i rounds. -/
def agR : Nat → List Int
  | 0 => []
  | i + 1 => agR i ++ [4 * (i : Int) + 1, 4 * (i : Int) + 1]
theorem agR_len : ∀ i, (agR i).length = 2 * i
  | 0 => rfl
  | i + 1 => by simp only [agR, List.length_append, agR_len i, List.length_cons, List.length_nil]; omega
theorem agR_get : ∀ (i k : Nat), k < 2 * i → (agR i).getD k 0 = 4 * ((k / 2 : Nat) : Int) + 1
  | 0, k, h => by omega
  | i + 1, k, h => by
    have hl := agR_len i
    simp only [agR, List.getD_eq_getElem?_getD]
    by_cases h1 : k < 2 * i
    · rw [List.getElem?_append_left (by omega), ← List.getD_eq_getElem?_getD]
      exact agR_get i k h1
    · rw [List.getElem?_append_right (by omega), hl]
      have h2 : k - 2 * i = 0 ∨ k - 2 * i = 1 := by omega
      rcases h2 with h2 | h2 <;> rw [h2] <;> simp <;> omega

/-- What holds in the second loop. -/
structure AgB (S : Hp) (rs : List Int) (os : List (Int × List Int)) (ns : List Int) : Prop where
  shape : S.shape rs = (os, ns)
  roots : ∀ r ∈ rs, r = 0 ∨ S.is r = true
  bnd : S.bnd = [0, 100, 100, 450, 450, 800]
  few : wordsO os ≤ 350
  room : S.y.top - S.y.fr ≤ S.old.to - S.old.top
  pair : ∀ k, k % 2 = 0 → k + 1 < rs.length → rs.getD k 0 = rs.getD (k + 1) 0

theorem agB_start {S : Hp} {n : Nat} (h : AgA S n) (hS : S.Ok) (hn : n ≤ 16) : AgB S (agR n) (S.shape (agR n)).1 (S.shape (agR n)).2 := by
  obtain ⟨b1, b2, b3, b4, b5, b6⟩ := h.b
  have hr : ∀ r ∈ agR n, S.is r = true := fun r hr => by
    obtain ⟨k, hk, e⟩ := List.mem_iff_getElem.1 hr
    have hl := agR_len n
    have := agR_get n k (by omega)
    rw [List.getD_eq_getElem?_getD, List.getElem?_eq_getElem hk] at this
    have e2 : (agR n)[k] = 4 * ((k / 2 : Nat) : Int) + 1 := this
    rw [← e, e2]
    exact (h.objs (k / 2) (by omega)).1
  have hall : ∀ a, S.is a = true → S.inY a = true := fun a ha => by
    refine Decidable.byContradiction fun hc => ?_
    rw [Bool.not_eq_true] at hc
    obtain ⟨k, hk, hk0, h1, h2⟩ := not_inY hS ha hc
    have hn : 0 ≤ S.num a := unN_nonneg _
    have hk2 : k = 1 ∨ k = 2 := by omega
    rcases hk2 with rfl | rfl
    · have e : S.sp 1 = S.h0 := rfl
      rw [e] at h1 h2
      have := h.o.1
      omega
    · have e : S.sp 2 = S.h1 := rfl
      rw [e] at h1 h2
      have := h.o.2
      omega
  refine ⟨rfl, fun r hm => .inr (hr r hm), h.bnd, ?_, ?_, fun k hk hl => ?_⟩
  · rw [words_reach hS]
    have h1 : sumW S (S.reach (agR n)) ≤ sumW S S.youngs := sumW_le S (reach_inN hS _).1 (fun a ha => by
      refine reach_all (P := fun a => a ∈ S.youngs) (fun r hr hi => (mem_youngs hS).2 (hall r hi)) (fun a ha j hj hb hi => (mem_youngs hS).2 (hall _ hi)) a ha)
    have h2 := sum_youngs hS
    rw [h.t, b1] at h2
    omega
  · rw [h.t, b1]
    have e : S.old = S.h0 := by unfold Hp.old; rw [if_pos h.now]
    rw [e, b4, h.o.1]
    omega
  · rw [agR_len] at hl
    rw [agR_get n k (by omega), agR_get n (k + 1) (by omega)]
    have : (k + 1) / 2 = k / 2 := by omega
    rw [this]

theorem AgB.b {S : Hp} {rs : List Int} {os : List (Int × List Int)} {ns : List Int} (h : AgB S rs os ns) : S.y.fr = 0 ∧ S.y.to = 100 ∧ S.h0.fr = 100 ∧ S.h0.to = 450 ∧ S.h1.fr = 450 ∧ S.h1.to = 800 := by
  have := h.bnd
  unfold Hp.bnd at this
  simpa using this
/-- A collection has room. -/
theorem AgB.may {S : Hp} {rs : List Int} {os : List (Int × List Int)} {ns : List Int} (h : AgB S rs os ns) (hS : S.Ok) (all : Bool) : S.asks all rs ≤ S.gives all := by
  obtain ⟨b1, b2, b3, b4, b5, b6⟩ := h.b
  unfold Hp.asks Hp.gives
  cases all with
  | true =>
    rw [if_pos rfl, if_pos rfl, ← words_reach hS, h.shape]
    have hw := h.few
    rcases oldK_12 S with e | e
    · rw [e]
      show wordsO os ≤ S.h1.to - S.h1.fr
      omega
    · rw [e]
      show wordsO os ≤ S.h0.to - S.h0.fr
      omega
  | false =>
    rw [if_neg (by simp), if_neg (by simp), sp_oldK]
    exact h.room
/-- Behind it. -/
theorem AgB.next {S : Hp} {rs : List Int} {os : List (Int × List Int)} {ns : List Int} (h : AgB S rs os ns) (hI : S.Inv) {all : Bool} {sc : Int → Nat → Bool} {M : Mv} {bg : List Nat} (hd : Done S all rs sc M bg) (hS' : (S.left all M bg).Ok) : AgB (S.left all M bg) (rs.map (fwL M.mv)) os ns := by
  refine ⟨?_, ?_, ?_, h.few, ?_, fun k hk hl => ?_⟩
  · unfold Hp.left
    rw [done_shape hI hd h.roots, h.shape]
  · exact done_root hd h.roots
  · unfold Hp.left
    rw [after_bnd]
    exact h.bnd
  · have hy : (S.left all M bg).y = { S.y with top := S.y.fr } := after_y hd.fin
    have ho := hS'.sp0 (S.left all M bg).oldK
    rw [sp_oldK] at ho
    rw [hy]
    show S.y.fr - S.y.fr ≤ _
    omega
  · rw [List.length_map] at hl
    have e : ∀ k, k < rs.length → (rs.map (fwL M.mv)).getD k 0 = fwL M.mv (rs.getD k 0) := fun k hk => by
      simp [List.getD_eq_getElem?_getD, List.getElem?_eq_getElem hk]
    rw [e k (by omega), e (k + 1) hl, h.pair k hk hl]
end Go.Proofs.YtneeljhjfmcdoaaDoor
