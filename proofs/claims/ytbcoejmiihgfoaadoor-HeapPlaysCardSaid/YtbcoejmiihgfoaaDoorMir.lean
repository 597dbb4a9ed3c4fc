/- The mirror's memory: a row of objects, each with a block of values of its own, known whole. -/
import Derived.Test.YtbcoejmiihgfoaaDoorObjs
namespace Go.Proofs.YtbcoejmiihgfoaaDoor
open Go.RowKit

/-- The mirror's objects, in blocks from B on. -/
structure Mir (w : World) (B : Nat) (uv : Value) (ps : List OP) : Prop where
 out : w.ownsRow B 51 2 uv ps.length (oflat ps)
 vals : ∀ p ∈ ps, p.v = .slice (some ⟨p.b, 0, none⟩) p.xs.length p.xs.length ∧ w.heap[p.b]? = some (.cells (icells p.xs) 2) ∧ B ≤ p.b ∧ uv.ownBlock ≠ some p.b
 nd : (ps.map OP.b).Nodup

theorem Mir.nil (w : World) (B : Nat) : Mir w B (.slice none 0 0) [] := ⟨World.ownsRow_nil _ _ _ _, by simp, by simp⟩

theorem Mir.upd {w w' : World} {B : Nat} {uv : Value} {ps : List OP} {T : List Nat} (h : Mir w B uv ps) (hu : Upd T w w') (hT : ∀ k ∈ T, uv.ownBlock ≠ some k ∧ ∀ p ∈ ps, p.b ≠ k) : Mir w' B uv ps := by
 refine ⟨row_upd h.out hu (fun k hk hm => (hT k hm).1 hk), fun p hp => ?_, h.nd⟩
 obtain ⟨h1, h2, h3, h4⟩ := h.vals p hp
 exact ⟨h1, hu.heap h2 (fun hm => (hT _ hm).2 p hp rfl), h3, h4⟩

/-- Blocks below the mirror's are none of it. -/
theorem Mir.low {w w' : World} {B : Nat} {uv : Value} {ps : List OP} {T : List Nat} (h : Mir w B uv ps) (hu : Upd T w w') (hT : ∀ k ∈ T, k < B) : Mir w' B uv ps :=
 h.upd hu (fun k hk => ⟨fun e => by have := (h.out.lt k e).1; have := hT k hk; omega, fun p hp e => by have := (h.vals p hp).2.2.1; have := hT k hk; omega⟩)

theorem Mir.form {w : World} {B : Nat} {uv : Value} {ps : List OP} (h : Mir w B uv ps) : ∃ p c, uv = .slice p ps.length c := by
 rcases h.out.2 with ⟨h1, h2⟩ | ⟨g, c, _, h1, _⟩
 ·exact ⟨none, 0, by rw [h1, h2]⟩
 ·exact ⟨_, c, h1⟩

/-- The k-th object's cells, and its values' block. -/
theorem Mir.nth {w : World} {B : Nat} {uv : Value} {ps : List OP} (h : Mir w B uv ps) (k : Nat) (hk : k < ps.length) :
  ∃ ub cap, uv = .slice (some ⟨ub, 0, none⟩) ps.length cap ∧ w.cell? ⟨ub, 2 * k, none⟩ = some (.int .i64 (ps[k]'hk).c) ∧ w.cell? ⟨ub, 2 * k + 1, none⟩ = some (.slice (some ⟨(ps[k]'hk).b, 0, none⟩) (ps[k]'hk).xs.length (ps[k]'hk).xs.length) ∧
   w.heap[(ps[k]'hk).b]? = some (.cells (icells (ps[k]'hk).xs) 2) := by
 rcases h.out.2 with ⟨_, hn⟩ | ⟨g, cap, cur, hv, _⟩
 ·omega
 ·obtain ⟨h1, h2⟩ := oflat_get ps k hk
  have h3 := h.out.cells (g := g) (by rw [hv]; rfl) _ _ h1
  have h4 := h.out.cells (g := g) (by rw [hv]; rfl) _ _ h2
  rw [Addr.add_lit, Nat.zero_add] at h3 h4
  obtain ⟨h5, h6, _⟩ := h.vals _ (List.getElem_mem hk)
  rw [h5] at h4
  exact ⟨g, cap, hv, h3, h4, h6⟩

/-- The row is grown by one object whose values' block is known. -/
theorem Mir.push {w w' : World} {B : Nat} {uv uv' : Value} {ps : List OP} (h : Mir w B uv ps) (q : OP) (hq : q.v = .slice (some ⟨q.b, 0, none⟩) q.xs.length q.xs.length) (hqb : w.heap[q.b]? = some (.cells (icells q.xs) 2)) (hqB : B ≤ q.b)
  (hqu : uv.ownBlock ≠ some q.b) (hqn : ∀ p ∈ ps, p.b ≠ q.b)
  (hrow : w'.ownsRow B 51 2 uv' (ps.length + 1) (oflat ps ++ [Value.int .i64 q.c, q.v])) (hg : w.grownBy w' uv.ownBlock) (hat : uv'.ownBlock = uv.ownBlock ∨ uv'.ownBlock = some w.heap.size) :
  Mir w' B uv' (ps ++ [q]) := by
 have hu : Upd uv.ownBlock.toList w w' := (Upd.refl _ w).grown hg (fun k hk => Or.inl (Option.mem_toList.2 hk))
 have hne : ∀ k, k < w.heap.size → uv.ownBlock ≠ some k → uv'.ownBlock ≠ some k := by
  intro k h1 h2 h3
  rcases hat with ho | ho
  ·exact h2 (ho ▸ h3)
  ·rw [ho] at h3; injection h3 with h3; omega
 refine ⟨?_, fun p hp => ?_, ?_⟩
 ·rw [oflat_snoc, List.length_append]
  exact hrow
 ·rcases List.mem_append.1 hp with hp | hp
  ·obtain ⟨h1, h2, h3, h4⟩ := h.vals p hp
   exact ⟨h1, hu.heap h2 (fun hm => h4 (Option.mem_toList.1 hm)), h3, hne _ (lt_of_heap h2) h4⟩
  ·simp only [List.mem_singleton] at hp
   subst hp
   exact ⟨hq, hu.heap hqb (fun hm => hqu (Option.mem_toList.1 hm)), hqB, hne _ (lt_of_heap hqb) hqu⟩
 ·rw [List.map_append, List.nodup_append]
  refine ⟨h.nd, by simp, ?_⟩
  intro a ha b hb e
  simp at hb
  subst hb
  obtain ⟨p, hp, rfl⟩ := List.mem_map.1 ha
  exact hqn p hp e

theorem oflat_set (ps : List OP) (k : Nat) (hk : k < ps.length) (q : OP) (hc : q.c = (ps[k]'hk).c) (hv : q.v = (ps[k]'hk).v) : oflat (ps.set k q) = oflat ps := by
 induction ps generalizing k with
 | nil => simp at hk
 | cons p t ih =>
  cases k with
  | zero =>
   simp only [List.getElem_cons_zero] at hc hv
   simp [oflat, hc, hv]
  | succ k =>
   have := ih k (by simpa using hk) (by simpa using hc) (by simpa using hv)
   simp only [List.set_cons_succ]
   unfold oflat at this ⊢
   rw [List.flatMap_cons, List.flatMap_cons, this]

/-- A value of the k-th object is set. -/
theorem Mir.setv {w : World} {B : Nat} {uv : Value} {ps : List OP} (h : Mir w B uv ps) (k : Nat) (hk : k < ps.length) (j : Nat) (x : Int) :
  Mir (w.setCell ⟨(ps[k]'hk).b, j, none⟩ (.int .i64 x)) B uv (ps.set k ⟨(ps[k]'hk).c, (ps[k]'hk).xs.set j x, (ps[k]'hk).v, (ps[k]'hk).b⟩) := by
 obtain ⟨k1, k2, k3, k4⟩ := h.vals _ (List.getElem_mem hk)
 have hu : Upd [(ps[k]'hk).b] w (w.setCell ⟨(ps[k]'hk).b, j, none⟩ (.int .i64 x)) := (Upd.refl _ w).setCell (.inl (by simp)) _
 have hinj : ∀ i (hi : i < ps.length), i ≠ k → (ps[i]'hi).b ≠ (ps[k]'hk).b := by
  intro i hi hne e
  have hnd := h.nd
  unfold List.Nodup at hnd
  rw [List.pairwise_iff_getElem] at hnd
  rcases Nat.lt_or_gt_of_ne hne with c | c
  ·exact hnd i k (by simpa using hi) (by simpa using hk) c (by simpa using e)
  ·exact hnd k i (by simpa using hk) (by simpa using hi) c (by simpa using e.symm)
 refine ⟨?_, fun p hp => ?_, ?_⟩
 ·have := row_upd h.out hu (fun q hq hm => by simp at hm; exact k4 (hm ▸ hq))
  rw [oflat_set ps k hk ⟨(ps[k]'hk).c, (ps[k]'hk).xs.set j x, (ps[k]'hk).v, (ps[k]'hk).b⟩ rfl rfl, List.length_set]
  exact this
 ·obtain ⟨i, hi, rfl⟩ := List.getElem_of_mem hp
  rw [List.length_set] at hi
  rw [List.getElem_set]
  split
  ·refine ⟨?_, ?_, k3, k4⟩
   ·show (ps[k]'hk).v = _
    rw [k1, List.length_set]
   ·show (w.setCell _ _).heap[(ps[k]'hk).b]? = _
    rw [heap_setCell k2, icells_set]
  ·rename_i hne
   obtain ⟨h1, h2, h3, h4⟩ := h.vals _ (List.getElem_mem hi)
   exact ⟨h1, hu.heap h2 (by simp; exact hinj i hi (fun e => hne e.symm)), h3, h4⟩
 ·have : (ps.set k ⟨(ps[k]'hk).c, (ps[k]'hk).xs.set j x, (ps[k]'hk).v, (ps[k]'hk).b⟩).map OP.b = ps.map OP.b := by
   apply List.ext_getElem
   ·simp
   ·intro i h1 h2
    rw [List.getElem_map, List.getElem_map, List.getElem_set]
    split
    ·rename_i e
     subst e; rfl
    ·rfl
  rw [this]
  exact h.nd

theorem Mir.objs {w : World} {B : Nat} {uv : Value} {ps : List OP} (h : Mir w B uv ps) : ObjsV w uv (ps.map OP.o) := by
 have hl : (ps.map OP.o).length = ps.length := by simp
 obtain ⟨p, c, hf⟩ := h.form
 refine ⟨p, c, by rw [hl]; exact hf, fun k hk => ?_⟩
 rw [hl] at hk
 obtain ⟨ub, cap, hv, c1, c2, h4⟩ := h.nth k hk
 rw [hf] at hv
 simp only [Value.slice.injEq] at hv
 have e : (ps.map OP.o).getD k (0, []) = (ps[k].c, ps[k].xs) := by
  rw [List.getD_eq_getElem?_getD, List.getElem?_map, List.getElem?_eq_getElem hk]; rfl
 rw [e]
 refine ⟨ub, _, (ps[k]'hk).b, hv.1, c1, c2, .inr ⟨_, rfl⟩, fun i hi => ?_⟩
 rw [cell_of h4]
 exact icells_get _ _ hi

theorem map_o_set (ps : List OP) (k : Nat) (hk : k < ps.length) (xs : List Int) : (ps.set k ⟨(ps[k]'hk).c, xs, (ps[k]'hk).v, (ps[k]'hk).b⟩).map OP.o = (ps.map OP.o).set k (((ps.map OP.o).getD k (0, [])).1, xs) := by
 have e : (ps.map OP.o).getD k (0, []) = (ps[k].c, ps[k].xs) := by
  rw [List.getD_eq_getElem?_getD, List.getElem?_map, List.getElem?_eq_getElem hk]; rfl
 rw [List.map_set, e]; rfl

end Go.Proofs.YtbcoejmiihgfoaaDoor
