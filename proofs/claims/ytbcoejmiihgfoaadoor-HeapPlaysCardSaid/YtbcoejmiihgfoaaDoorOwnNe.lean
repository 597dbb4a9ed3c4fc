/- Rows in different blocks; rows of one's own, read and grown. (The same lemmas lie in XMet, XShE and XShE2: import one of them alone.) -/
import Derived.Test.YtbcoejmiihgfoaaDoorOwnI
namespace Go.Proofs.YtbcoejmiihgfoaaDoor
open Go.RowKit

theorem own_ne {w : World} {b1 b2 : Nat} {e1 e2 : TypeId} {s1 s2 : Nat} {v1 v2 : Value} {n1 n2 : Nat} {x1 x2 : List Value} (h1 : w.ownsRow b1 e1 s1 v1 n1 x1) (h2 : w.ownsRow b2 e2 s2 v2 n2 x2) (he : e1 ≠ e2) (k : Nat) (hk : v1.ownBlock = some k) : v2.ownBlock ≠ some k := by
 intro hk2
 rcases h1.2 with ⟨hv, _⟩ | ⟨g, c, cur, hv, _, hg, _⟩
 ·rw [hv] at hk; simp [Value.ownBlock] at hk
 ·rcases h2.2 with ⟨hv2, _⟩ | ⟨g2, c2, cur2, hv2, _, hg2, _⟩
  ·rw [hv2] at hk2; simp [Value.ownBlock] at hk2
  ·rw [hv] at hk
   rw [hv2] at hk2
   simp only [Value.ownBlock, Option.some.injEq] at hk hk2
   subst hk
   subst hk2
   rw [hg] at hg2
   injection hg2 with hg2
   injection hg2 with _ h _
   exact he h

/-- A row lies in no block of another element type. -/
theorem own_heap_ne {w : World} {b1 : Nat} {e1 e2 : TypeId} {s1 : Nat} {v1 : Value} {n1 : Nat} {x1 : List Value} {b : Nat} {c : Array Value} (h1 : w.ownsRow b1 e1 s1 v1 n1 x1) (h2 : w.heap[b]? = some (.cells c e2)) (he : e1 ≠ e2) : v1.ownBlock ≠ some b := by
 intro hk
 rcases h1.2 with ⟨hv, _⟩ | ⟨g, cp, cur, hv, _, hg, _⟩
 ·rw [hv] at hk; simp [Value.ownBlock] at hk
 ·rw [hv] at hk
  simp only [Value.ownBlock, Option.some.injEq] at hk
  subst hk
  rw [hg] at h2
  injection h2 with h2
  injection h2 with _ h _
  exact he h

theorem OwnI.snoc {w : World} {base : Nat} {e : TypeId} {v : Value} {xs : List Int} {x : Int} (h : w.ownsRow base e 1 v (xs.length + 1) (xs.map (Value.int .i64) ++ [.int .i64 x])) : OwnI w base e v (xs ++ [x]) := by
 unfold OwnI
 simpa using h

theorem map_snoc_take {α β : Type} (f : α → β) (l : List α) (k : Nat) (h : k < l.length) (d : α) : (l.take (k + 1)).map f = (l.take k).map f ++ [f (l.getD k d)] := by
 rw [List.take_succ_eq_append_getElem h, List.map_append, List.getD_eq_getElem?_getD, List.getElem?_eq_getElem h]; rfl

theorem OwnI.nth {w : World} {base : Nat} {e : TypeId} {v : Value} {xs : List Int} (h : OwnI w base e v xs) (k : Nat) (hk : k < xs.length) : ∃ g c, v = .slice (some ⟨g, 0, none⟩) xs.length c ∧ base ≤ g ∧ g < w.heap.size ∧ w.cell? ⟨g, k, none⟩ = some (.int .i64 (xs.getD k 0)) := by
 rcases h.form with ⟨_, h2⟩ | ⟨g, c, h1, _, h3, h4, h5⟩
 ·rw [h2] at hk; simp at hk
 ·exact ⟨g, c, h1, h3, h4, h5 k hk⟩

theorem OwnI.shape {w : World} {base : Nat} {e : TypeId} {v : Value} {xs : List Int} (h : OwnI w base e v xs) : ∃ p c, v = .slice p xs.length c := by
 rcases h.form with ⟨h1, h2⟩ | ⟨g, c, h1, _⟩
 ·exact ⟨none, 0, by rw [h1, h2]; rfl⟩
 ·exact ⟨_, c, h1⟩

/-- A row of integers of one's own is grown by one. -/
theorem OwnI.push {w w' : World} {base : Nat} {e : TypeId} {v v' : Value} {xs : List Int} {x : Int} {o : Obj} (h : OwnI w base e v xs) (hown : w'.ownsRow base e 1 v' (xs.length + 1) (xs.map (Value.int .i64) ++ [.int .i64 x]))
  (hgr : (w.alloc o).grownBy w' v.ownBlock) : OwnI w' base e v' (xs ++ [x]) ∧ Upd v.ownBlock.toList w w' ∧ (∀ k ∈ v.ownBlock.toList, base ≤ k ∧ k < w.heap.size) :=
 ⟨OwnI.snoc hown, ((Upd.refl _ w).alloc o).grown hgr (fun _ hq => Or.inl (Option.mem_toList.2 hq)), fun k hk => h.lt k (Option.mem_toList.1 hk)⟩

end Go.Proofs.YtbcoejmiihgfoaaDoor
