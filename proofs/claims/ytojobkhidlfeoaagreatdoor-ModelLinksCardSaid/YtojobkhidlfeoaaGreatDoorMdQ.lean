/- What a program means, plain: what can be reached, as the document counts it; the greatest counts of a run. -/
import Derived.Test.YtojobkhidlfeoaaGreatDoorMdP
namespace Go.Proofs.YtojobkhidlfeoaaGreatDoor

/-- The references among values. -/
def refsOf (l : List Vl) : List Int := (l.filter (·.ref)).map (·.n)
theorem refsOf_app (a b : List Vl) : refsOf (a ++ b) = refsOf a ++ refsOf b := by simp [refsOf]
theorem refsOf_snoc (a : List Vl) (v : Vl) : refsOf (a ++ [v]) = if v.ref then refsOf a ++ [v.n] else refsOf a := by
 rw [refsOf_app]
 cases h : v.ref <;> simp [refsOf, h]
theorem refsOf_mem {l : List Vl} {x : Int} : x ∈ refsOf l ↔ ∃ v ∈ l, v.ref = true ∧ v.n = x := by
 simp [refsOf, and_assoc]
/-- In the midst of the document's walk. -/
structure Dfr (p : Prg) (S : Mc) (R : Nat → Prop) (seen : List Bool) (todo : List Int) (n : Int) : Prop where
 len : seen.length = S.objs.length
 odo : ∀ x ∈ todo, -1 ≤ x ∧ x < S.objs.length ∧ (x ≠ -1 → S.Reach x.toNat)
 sound : ∀ i, seen.getD i false = true → S.Reach i ∧ i < S.objs.length
 roots : ∀ i, R i → seen.getD i false = true ∨ (i : Int) ∈ todo
 closed : ∀ i, seen.getD i false = true → ∀ v ∈ (S.objs.getD i default).vals, ∀ j, v.nm j → seen.getD j false = true ∨ (j : Int) ∈ todo
 sum : n = sumS p S (fun i => seen.getD i false)
/-- One is taken off that is none, or was seen. -/
theorem Dfr.skip {p : Prg} {S : Mc} {R : Nat → Prop} {seen : List Bool} {todo : List Int} {x n : Int} (h : Dfr p S R seen (todo ++ [x]) n) (hx : x < 0 ∨ seen.getD x.toNat false = true) : Dfr p S R seen todo n := by
 have key : ∀ i : Nat, (i : Int) ∈ todo ++ [x] → seen.getD i false = true ∨ (i : Int) ∈ todo := fun i hi => by
  rcases List.mem_append.1 hi with h1 | h1
  ·exact .inr h1
  ·rw [List.mem_singleton] at h1
   rcases hx with hx | hx
   ·omega
   ·left; rw [← h1] at hx; simpa using hx
 exact ⟨h.len, fun y hy => h.odo y (by simp [hy]), h.sound, fun i hi => (h.roots i hi).elim .inl (key i), fun i hi v hv j hj => (h.closed i hi v hv j hj).elim .inl (key j), h.sum⟩
/-- One is taken off that was not seen: it is seen, what it names is to be done. -/
theorem Dfr.take {p : Prg} {S : Mc} {R : Nat → Prop} {seen : List Bool} {todo : List Int} {x n : Int} (h : Dfr p S R seen (todo ++ [x]) n) (h0 : 0 ≤ x) (hs : seen.getD x.toNat false = false) (ho : ∀ v ∈ (S.objs.getD x.toNat default).vals, v.Ok S.objs.length) :
  Dfr p S R (seen.set x.toNat true) (todo ++ refsOf (S.objs.getD x.toNat default).vals) (n + p.ow (S.objs.getD x.toNat default)) := by
 obtain ⟨h1, h2, h3⟩ := h.odo x (by simp)
 have hlt : x.toNat < seen.length := by rw [h.len]; omega
 have hg : ∀ i, (seen.set x.toNat true).getD i false = if i = x.toNat then true else seen.getD i false := fun i => getD_set_true hlt
 have key : ∀ i : Nat, (i : Int) ∈ todo ++ [x] → (seen.set x.toNat true).getD i false = true ∨ (i : Int) ∈ todo ++ refsOf (S.objs.getD x.toNat default).vals := fun i hi => by
  rcases List.mem_append.1 hi with h4 | h4
  ·exact .inr (List.mem_append.2 (.inl h4))
  ·rw [List.mem_singleton] at h4
   left
   rw [hg, if_pos (by omega)]
 have keep : ∀ i : Nat, seen.getD i false = true → (seen.set x.toNat true).getD i false = true := fun i hi => by
  rw [hg]
  split
  ·rfl
  ·exact hi
 refine ⟨by simp [h.len], fun y hy => ?_, fun i hi => ?_, fun i hi => (h.roots i hi).elim (fun h => .inl (keep i h)) (key i), fun i hi v hv j hj => ?_, ?_⟩
 ·rcases List.mem_append.1 hy with h4 | h4
  ·exact h.odo y (by simp [h4])
  ·obtain ⟨v, hv, hr, rfl⟩ := refsOf_mem.1 h4
   have h5 := (ho v hv).1 hr
   exact ⟨h5.1, h5.2, fun hne => .step (h3 (by omega)) hv ⟨hr, by omega⟩⟩
 ·rw [hg] at hi
  split at hi
  ·rename_i e
   subst e
   exact ⟨h3 (by omega), by omega⟩
  ·exact h.sound i hi
 ·rw [hg] at hi
  split at hi
  ·rename_i e
   subst e
   exact .inr (List.mem_append.2 (.inr (refsOf_mem.2 ⟨v, hv, hj.1, hj.2⟩)))
  ·exact (h.closed i hi v hv j hj).elim (fun h => .inl (keep j h)) (key j)
 ·rw [h.sum]
  have e := sumS_set (p := p) (S := S) (f := fun i => seen.getD i false) (k := x.toNat) (by omega) hs
  rw [← e]
  exact (sumS_congr fun i _ => hg i).symm
theorem Dfr.all {p : Prg} {S : Mc} {R : Nat → Prop} {seen : List Bool} {n : Int} (h : Dfr p S R seen [] n) (hR : ∀ f ∈ S.frs, ∀ v ∈ f.loc ++ f.stk, ∀ i, v.nm i → R i) : n = S.reachW p := by
 rw [h.sum]
 refine reachW_is fun i hlt => ?_
 clear hlt
 refine ⟨fun hi => (h.sound i hi).1, fun hi => ?_⟩
 induction hi with
 | root hf hv hn => exact (h.roots _ (hR _ hf _ hv _ hn)).elim (fun h => h) (fun h => absurd h (by simp))
 | step _ hv hn ih => exact (h.closed _ ih _ hv _ hn).elim (fun h => h) (fun h => absurd h (by simp))
/-- The references of the frames. -/
def Mc.rootR (S : Mc) : List Int := S.frs.flatMap fun f => refsOf (f.loc ++ f.stk)
theorem Dfr.start {p : Prg} {S : Mc} (h : ∀ f ∈ S.frs, ∀ v ∈ f.loc ++ f.stk, v.Ok S.objs.length) {l : List Int} (hl : ∀ x, x ∈ l ↔ x ∈ S.rootR) : Dfr p S (fun i => ∃ f ∈ S.frs, ∃ v ∈ f.loc ++ f.stk, v.nm i) (List.replicate S.objs.length false) l 0 := by
 have e : ∀ i, (List.replicate S.objs.length false).getD i false = false := fun i => by
  rw [List.getD_eq_getElem?_getD, List.getElem?_replicate]
  split <;> rfl
 refine ⟨by simp, fun x hx => ?_, fun i hi => (by rw [e] at hi; cases hi), fun i hi => ?_, fun i hi => (by rw [e] at hi; cases hi), ?_⟩
 ·rw [hl] at hx
  unfold Mc.rootR at hx
  rw [List.mem_flatMap] at hx
  obtain ⟨f, hf, hx⟩ := hx
  obtain ⟨v, hv, hr, rfl⟩ := refsOf_mem.1 hx
  have h5 := (h f hf v hv).1 hr
  exact ⟨h5.1, h5.2, fun hne => .root hf hv ⟨hr, by omega⟩⟩
 ·obtain ⟨f, hf, v, hv, hn⟩ := hi
  right
  rw [hl]
  unfold Mc.rootR
  rw [List.mem_flatMap]
  exact ⟨f, hf, refsOf_mem.2 ⟨v, hv, hn.1, hn.2⟩⟩
 ·rw [sumS_zero]
  intro i _
  exact e i

/-- The words of the frames. -/
def Prg.fw (p : Prg) (ss : List Lk) (m : Nat) : Int := 4 + ((p.ms.getD m default).params.size + (p.ms.getD m default).locals.size : Nat) + (ss.getD m default).most
def Mc.wsum (p : Prg) (ss : List Lk) (S : Mc) : Int := (S.frs.map fun f => p.fw ss f.m).sum
/-- So many steps: the greatest words of what could be reached when an object was made, the greatest words of frames. -/
noncomputable def Mc.pkO (p : Prg) : Nat → Mc → Int
 | 0, _ => 0
 | k + 1, S => max (Mc.pkO p k S) (if (Mc.steps p k S).objs.length < (Mc.steps p (k + 1) S).objs.length then (Mc.steps p (k + 1) S).reachW p else 0)
def Mc.pkF (p : Prg) (ss : List Lk) : Nat → Mc → Int
 | 0, S => max 0 (S.wsum p ss)
 | k + 1, S => max (Mc.pkF p ss k S) ((Mc.steps p (k + 1) S).wsum p ss)
theorem pkO_nn (p : Prg) (S : Mc) : ∀ k, 0 ≤ Mc.pkO p k S
 | 0 => Int.le_refl _
 | k + 1 => by
  have := pkO_nn p S k
  show 0 ≤ max _ _
  omega
theorem pkO_stay {p : Prg} {S : Mc} {k : Nat} (h : (Mc.steps p k S).fin ≠ none) : ∀ j, Mc.pkO p (k + j) S = Mc.pkO p k S
 | 0 => rfl
 | j + 1 => by
  have h1 : Mc.steps p (k + j) S = Mc.steps p k S := by rw [steps_add, steps_fin h]
  have h2 : Mc.steps p (k + j + 1) S = Mc.steps p k S := by rw [show k + j + 1 = k + (j + 1) by omega, steps_add, steps_fin h]
  show max (Mc.pkO p (k + j) S) (if (Mc.steps p (k + j) S).objs.length < (Mc.steps p (k + j + 1) S).objs.length then _ else 0) = _
  rw [h1, h2, if_neg (by omega), pkO_stay h j]
  have := pkO_nn p S k
  omega
end Go.Proofs.YtojobkhidlfeoaaGreatDoor
