/- What a program means, plain: what can be reached from the frames, and its words. -/
import Derived.Test.YtojobkhidlfeoaaGreatDoorMdS
namespace Go.Proofs.YtojobkhidlfeoaaGreatDoor

/-- A value names an object. -/
def Vl.nm (v : Vl) (i : Nat) : Prop := v.ref = true ∧ v.n = (i : Int)
inductive Mc.Reach (S : Mc) : Nat → Prop where
 | root {f : Fm} {v : Vl} {i : Nat} : f ∈ S.frs → v ∈ f.loc ++ f.stk → v.nm i → Mc.Reach S i
 | step {i j : Nat} {v : Vl} : Mc.Reach S i → v ∈ (S.objs.getD i default).vals → v.nm j → Mc.Reach S j
/-- An object's words. -/
def Prg.ow (p : Prg) (o : Ob) : Int := 2 + (if 0 ≤ o.cls ∧ o.cls < p.cs.length then ((p.cs.getD o.cls.toNat ByteArray.empty).size : Int) else (o.vals.length : Int))
def sumS (p : Prg) (S : Mc) (seen : Nat → Bool) : Int := ((List.range S.objs.length).map fun i => if seen i then p.ow (S.objs.getD i default) else 0).sum
open Classical in
noncomputable def Mc.reachB (S : Mc) (i : Nat) : Bool := decide (S.Reach i)
/-- The words of all that can be reached. -/
noncomputable def Mc.reachW (p : Prg) (S : Mc) : Int := sumS p S S.reachB
theorem sumS_congr {p : Prg} {S : Mc} {f g : Nat → Bool} (h : ∀ i, i < S.objs.length → f i = g i) : sumS p S f = sumS p S g := by
 unfold sumS
 congr 1
 apply List.map_congr_left
 intro i hi
 rw [h i (List.mem_range.1 hi)]
theorem reachW_is {p : Prg} {S : Mc} {f : Nat → Bool} (h : ∀ i, i < S.objs.length → (f i = true ↔ S.Reach i)) : sumS p S f = S.reachW p := by
 refine sumS_congr fun i hi => ?_
 unfold Mc.reachB
 have := h i hi
 rw [Bool.eq_iff_iff, this]
 simp
theorem sum_set (n k : Nat) (hk : k < n) (f : Nat → Bool) (w : Nat → Int) (h : f k = false) : ((List.range n).map fun i => if (if i = k then true else f i) then w i else 0).sum = ((List.range n).map fun i => if f i then w i else 0).sum + w k := by
 induction n with
 | zero => omega
 | succ n ih =>
  rw [List.range_succ, List.map_append, List.map_append, List.sum_append, List.sum_append]
  simp only [List.map_cons, List.map_nil, List.sum_cons, List.sum_nil]
  by_cases e : k = n
  ·subst e
   have : ((List.range k).map fun i => if (if i = k then true else f i) then w i else 0) = (List.range k).map fun i => if f i then w i else 0 := by
    apply List.map_congr_left
    intro i hi
    rw [List.mem_range] at hi
    rw [if_neg (show ¬ i = k by omega)]
   rw [this, if_pos rfl, h]
   simp
  ·rw [ih (by omega), if_neg (show ¬ n = k by omega)]
   omega
/-- One more is counted. -/
theorem sumS_set {p : Prg} {S : Mc} {f : Nat → Bool} {k : Nat} (hk : k < S.objs.length) (h : f k = false) : sumS p S (fun i => if i = k then true else f i) = sumS p S f + p.ow (S.objs.getD k default) := sum_set _ _ hk _ _ h
theorem sumS_zero {p : Prg} {S : Mc} {f : Nat → Bool} (h : ∀ i, i < S.objs.length → f i = false) : sumS p S f = 0 := by
 have e : sumS p S f = ((List.range S.objs.length).map fun _ => (0 : Int)).sum := by
  unfold sumS
  congr 1
  apply List.map_congr_left
  intro i hi
  rw [h i (List.mem_range.1 hi)]
  rfl
 rw [e]
 generalize S.objs.length = n
 induction n with
 | zero => rfl
 | succ n ih =>
  rw [List.range_succ, List.map_append, List.sum_append, ih]
  rfl
theorem sumS_nn {p : Prg} {S : Mc} {f : Nat → Bool} : 0 ≤ sumS p S f := by
 unfold sumS
 generalize S.objs.length = n
 induction n with
 | zero => simp
 | succ n ih =>
  rw [List.range_succ, List.map_append, List.sum_append]
  simp only [List.map_cons, List.map_nil, List.sum_cons, List.sum_nil]
  have how : 0 ≤ p.ow (S.objs.getD n default) := by
   unfold Prg.ow
   split <;> omega
  split <;> omega

/-- A list of values is met: what is named and not seen is seen and laid on the work. -/
def meetV : List Vl → List Bool → List Nat → List Bool × List Nat
 | [], seen, work => (seen, work)
 | v :: l, seen, work => if v.ref = true ∧ v.n ≠ -1 ∧ seen.getD v.n.toNat false = false then meetV l (seen.set v.n.toNat true) (work ++ [v.n.toNat]) else meetV l seen work
/-- In the midst of the walk: what is seen can be reached; what is seen and not on the work is done. -/
structure Dfs (p : Prg) (S : Mc) (R : Nat → Prop) (seen : List Bool) (work : List Nat) (n : Int) : Prop where
 len : seen.length = S.objs.length
 nodup : work.Nodup
 wseen : ∀ i ∈ work, seen.getD i false = true
 sound : ∀ i, seen.getD i false = true → S.Reach i ∧ i < S.objs.length
 roots : ∀ i, R i → seen.getD i false = true
 closed : ∀ i, seen.getD i false = true → i ∉ work → ∀ v ∈ (S.objs.getD i default).vals, ∀ j, v.nm j → seen.getD j false = true
 sum : n = sumS p S (fun i => seen.getD i false && !decide (i ∈ work))
theorem meetV_cons {v : Vl} {l : List Vl} {seen : List Bool} {work : List Nat} : meetV (v :: l) seen work = if v.ref = true ∧ v.n ≠ -1 ∧ seen.getD v.n.toNat false = false then meetV l (seen.set v.n.toNat true) (work ++ [v.n.toNat]) else meetV l seen work := rfl
/-- One value more is met. -/
theorem meetV_snoc (v : Vl) : ∀ (l : List Vl) (seen : List Bool) (work : List Nat), meetV (l ++ [v]) seen work = meetV [v] (meetV l seen work).1 (meetV l seen work).2
 | [], _, _ => rfl
 | u :: l, seen, work => by
  rw [List.cons_append, meetV_cons, meetV_cons (l := l)]
  split
  ·exact meetV_snoc v l _ _
  ·exact meetV_snoc v l _ _
theorem nodup_snoc {α : Type} {l : List α} {a : α} (h : l.Nodup) (ha : a ∉ l) : (l ++ [a]).Nodup := by
 rw [List.nodup_append]
 exact ⟨h, by simp, fun x hx y hy e => ha (by rw [List.mem_singleton] at hy; rw [← hy, ← e]; exact hx)⟩
/-- What is met stays well formed, though what names it (the object D, that is taken off the work) is not done. -/
structure Dfx (p : Prg) (S : Mc) (R : Nat → Prop) (D : Nat → Prop) (seen : List Bool) (work : List Nat) (n : Int) : Prop where
 len : seen.length = S.objs.length
 nodup : work.Nodup
 wseen : ∀ i ∈ work, seen.getD i false = true
 sound : ∀ i, seen.getD i false = true → S.Reach i ∧ i < S.objs.length
 roots : ∀ i, R i → seen.getD i false = true
 closed : ∀ i, seen.getD i false = true → i ∉ work → ¬ D i → ∀ v ∈ (S.objs.getD i default).vals, ∀ j, v.nm j → seen.getD j false = true
 sum : n = sumS p S (fun i => seen.getD i false && !decide (i ∈ work))
theorem Dfs.dfx {p : Prg} {S : Mc} {R : Nat → Prop} {seen : List Bool} {work : List Nat} {n : Int} (h : Dfs p S R seen work n) : Dfx p S R (fun _ => False) seen work n := ⟨h.len, h.nodup, h.wseen, h.sound, h.roots, fun i h1 h2 _ => h.closed i h1 h2, h.sum⟩
theorem Dfx.dfs {p : Prg} {S : Mc} {R : Nat → Prop} {seen : List Bool} {work : List Nat} {n : Int} (h : Dfx p S R (fun _ => False) seen work n) : Dfs p S R seen work n := ⟨h.len, h.nodup, h.wseen, h.sound, h.roots, fun i h1 h2 => h.closed i h1 h2 (fun h => h), h.sum⟩
theorem getD_set_true {l : List Bool} {k i : Nat} (hk : k < l.length) : (l.set k true).getD i false = if i = k then true else l.getD i false := by
 rw [List.getD_eq_getElem?_getD, List.getElem?_set]
 by_cases e : k = i
 ·subst e
  simp [hk]
 ·rw [if_neg e, if_neg (fun h => e h.symm), List.getD_eq_getElem?_getD]
/-- Values are met: all that they name is seen then. -/
theorem meet_ok {p : Prg} {S : Mc} {D : Nat → Prop} {n : Int} : ∀ (l : List Vl) {R : Nat → Prop} {seen : List Bool} {work : List Nat}, Dfx p S R D seen work n → (∀ v ∈ l, v.Ok S.objs.length) → (∀ v ∈ l, ∀ j, v.nm j → S.Reach j) →
  Dfx p S (fun i => R i ∨ ∃ v ∈ l, v.nm i) D (meetV l seen work).1 (meetV l seen work).2 n ∧ (∀ i ∈ work, i ∈ (meetV l seen work).2) ∧ (∀ i, seen.getD i false = true → (meetV l seen work).1.getD i false = true)
 | [], R, seen, work, h, _, _ => ⟨⟨h.len, h.nodup, h.wseen, h.sound, fun i hi => by
   rcases hi with hi | ⟨v, hv, _⟩
   ·exact h.roots i hi
   ·exact absurd hv (by simp), h.closed, h.sum⟩, fun _ h => h, fun _ h => h⟩
 | v :: l, R, seen, work, h, hok, hr => by
  rw [meetV_cons]
  have hv := hok v (by simp)
  by_cases hc : v.ref = true ∧ v.n ≠ -1 ∧ seen.getD v.n.toNat false = false
  ·rw [if_pos hc]
   have h1 := hv.1 hc.1
   have hlt : v.n.toNat < seen.length := by rw [h.len]; omega
   have hnm : v.nm v.n.toNat := ⟨hc.1, by omega⟩
   have hnw : v.n.toNat ∉ work := fun hm => by
    have := h.wseen _ hm
    rw [hc.2.2] at this
    cases this
   have hg : ∀ i, (seen.set v.n.toNat true).getD i false = if i = v.n.toNat then true else seen.getD i false := fun i => getD_set_true hlt
   have hD : Dfx p S (fun i => R i ∨ v.nm i) D (seen.set v.n.toNat true) (work ++ [v.n.toNat]) n := by
    refine ⟨by simp [h.len], nodup_snoc h.nodup hnw, fun i hi => ?_, fun i hi => ?_, fun i hi => ?_, fun i hi hw hd u hu j hj => ?_, ?_⟩
    ·rw [hg]
     rcases List.mem_append.1 hi with h2 | h2
     ·split
      ·rfl
      ·exact h.wseen i h2
     ·rw [List.mem_singleton] at h2
      rw [if_pos h2]
    ·rw [hg] at hi
     split at hi
     ·rename_i e
      subst e
      exact ⟨hr v (by simp) _ hnm, by omega⟩
     ·exact h.sound i hi
    ·rw [hg]
     split
     ·rfl
     ·rename_i e
      rcases hi with hi | hi
      ·exact h.roots i hi
      ·exact absurd (show i = v.n.toNat by have := hi.2; omega) e
    ·rw [hg] at hi
     rw [hg]
     split
     ·rfl
     ·rename_i e
      have e2 : i ≠ v.n.toNat := fun e2 => hw (List.mem_append.2 (.inr (by rw [e2]; simp)))
      rw [if_neg e2] at hi
      exact h.closed i hi (fun hm => hw (List.mem_append.2 (.inl hm))) hd u hu j hj
    ·rw [h.sum]
     refine sumS_congr fun i _ => ?_
     rw [hg]
     by_cases e : i = v.n.toNat
     ·subst e
      rw [hc.2.2, if_pos rfl]
      simp
     ·rw [if_neg e]
      simp [e]
   have ih := meet_ok l hD (fun u hu => hok u (by simp [hu])) (fun u hu => hr u (by simp [hu]))
   refine ⟨⟨ih.1.len, ih.1.nodup, ih.1.wseen, ih.1.sound, fun i hi => ih.1.roots i ?_, ih.1.closed, ih.1.sum⟩, fun i hi => ih.2.1 i (List.mem_append.2 (.inl hi)), fun i hi => ih.2.2 i ?_⟩
   ·rcases hi with hi | ⟨u, hu, hn⟩
    ·exact .inl (.inl hi)
    ·rcases List.mem_cons.1 hu with rfl | hu
     ·exact .inl (.inr hn)
     ·exact .inr ⟨u, hu, hn⟩
   ·rw [hg]
    split
    ·rfl
    ·exact hi
  ·rw [if_neg hc]
   have ih := meet_ok l h (fun u hu => hok u (by simp [hu])) (fun u hu => hr u (by simp [hu]))
   refine ⟨⟨ih.1.len, ih.1.nodup, ih.1.wseen, ih.1.sound, fun i hi => ?_, ih.1.closed, ih.1.sum⟩, ih.2.1, ih.2.2⟩
   rcases hi with hi | ⟨u, hu, hn⟩
   ·exact ih.1.roots i (.inl hi)
   ·rcases List.mem_cons.1 hu with rfl | hu
    ·refine ih.2.2 i ?_
     have h2 := hn.2
     cases hs : seen.getD i false with
     | true => rfl
     | false =>
      refine absurd ⟨hn.1, ?_, ?_⟩ hc
      ·omega
      ·rw [show u.n.toNat = i by omega]; exact hs
    ·exact ih.1.roots i (.inr ⟨u, hu, hn⟩)
/-- One is taken off the work: its words are counted, it is to be met. -/
theorem Dfs.take {p : Prg} {S : Mc} {R : Nat → Prop} {seen : List Bool} {work : List Nat} {k : Nat} {n : Int} (h : Dfs p S R seen (work ++ [k]) n) : Dfx p S R (fun i => i = k) seen work (n + p.ow (S.objs.getD k default)) := by
 have hnd := h.nodup
 rw [List.nodup_append] at hnd
 have hk : k ∉ work := fun hm => hnd.2.2 k hm k (by simp) rfl
 have hs := h.wseen k (by simp)
 refine ⟨h.len, hnd.1, fun i hi => h.wseen i (by simp [hi]), h.sound, h.roots, fun i hi hw hd => h.closed i hi (fun hm => ?_), ?_⟩
 ·rcases List.mem_append.1 hm with h1 | h1
  ·exact hw h1
  ·rw [List.mem_singleton] at h1; exact hd h1
 ·rw [h.sum]
  have e := sumS_set (p := p) (S := S) (f := fun i => seen.getD i false && !decide (i ∈ work ++ [k])) (k := k) (h.sound k hs).2 (by simp)
  rw [← e]
  refine (sumS_congr fun i _ => ?_).symm
  by_cases e : i = k
  ·subst e
   rw [if_pos rfl, hs]
   simp [hk]
  ·rw [if_neg e]
   simp [e]
/-- .. and it is done when it was met. -/
theorem Dfx.done {p : Prg} {S : Mc} {R : Nat → Prop} {seen : List Bool} {work : List Nat} {k : Nat} {n : Int} (h : Dfx p S R (fun i => i = k) seen work n) (hk : ∀ v ∈ (S.objs.getD k default).vals, ∀ j, v.nm j → seen.getD j false = true) : Dfs p S R seen work n :=
 ⟨h.len, h.nodup, h.wseen, h.sound, h.roots, fun i hi hw v hv j hj => by
  by_cases e : i = k
  ·subst e; exact hk v hv j hj
  ·exact h.closed i hi hw e v hv j hj, h.sum⟩
/-- The work is done: all that can be reached was counted. -/
theorem Dfs.all {p : Prg} {S : Mc} {R : Nat → Prop} {seen : List Bool} {n : Int} (h : Dfs p S R seen [] n) (hR : ∀ f ∈ S.frs, ∀ v ∈ f.loc ++ f.stk, ∀ i, v.nm i → R i) : n = S.reachW p := by
 rw [h.sum]
 refine reachW_is fun i hlt => ?_
 clear hlt
 simp only [List.not_mem_nil, decide_false, Bool.not_false, Bool.and_true]
 refine ⟨fun hi => (h.sound i hi).1, fun hi => ?_⟩
 induction hi with
 | root hf hv hn => exact h.roots _ (hR _ hf _ hv _ hn)
 | step _ hv hn ih => exact h.closed _ ih (by simp) _ hv _ hn
theorem Dfs.start (p : Prg) (S : Mc) : Dfs p S (fun _ => False) (List.replicate S.objs.length false) [] 0 := by
 have e : ∀ i, (List.replicate S.objs.length false).getD i false = false := fun i => by
  rw [List.getD_eq_getElem?_getD, List.getElem?_replicate]
  split <;> rfl
 refine ⟨by simp, by simp, by simp, fun i hi => (by rw [e] at hi; cases hi), fun _ h => h.elim, fun i hi => (by rw [e] at hi; cases hi), ?_⟩
 rw [sumS_zero]
 intro i _
 rw [e]
 rfl
end Go.Proofs.YtojobkhidlfeoaaGreatDoor
