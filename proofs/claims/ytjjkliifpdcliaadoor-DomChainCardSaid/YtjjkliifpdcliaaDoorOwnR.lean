/- Rows of one's own, that grow one behind the other. -/
import Derived.Test.YtjjkliifpdcliaaDoorSameI
import Derived.Test.YtjjkliifpdcliaaDoorWalkP
namespace Go.Proofs.YtjjkliifpdcliaaDoor
open Go.RowKit

/-- A slice of rows, each from its block's beginning. -/
def RowsZ (w : World) (v : Value) (g : List (List Int)) : Prop :=
  ∃ p c, v = .slice p g.length c ∧ g.length ≤ maxLen ∧ ∀ i, i < g.length → ∃ gb rv b, p = some ⟨gb, 0, none⟩ ∧ w.cell? ⟨gb, i, none⟩ = some rv ∧ IntsV w rv b (g.getD i [])
theorem RowsZ.upd {w w' : World} {v : Value} {g : List (List Int)} (h : RowsZ w v g) (hu : Upd [] w w') : RowsZ w' v g := by
  obtain ⟨p, c, h1, h2, h3⟩ := h
  refine ⟨p, c, h1, h2, fun i hi => ?_⟩
  obtain ⟨gb, rv, b, h4, h5, h6⟩ := h3 i hi
  exact ⟨gb, rv, b, h4, hu.cell h5 (by simp), h6.upd hu (Or.inr (by simp))⟩

theorem OwnL.rowsZ {w : World} {G B gb : Nat} {vs : List Value} {xs : List (List Int)} (h : OwnL w G B gb vs xs) (hn : xs.length ≤ maxLen) (cap : Nat) : RowsZ w (.slice (some ⟨gb, 0, none⟩) xs.length cap) xs := by
  refine ⟨_, cap, rfl, hn, fun i hi => ?_⟩
  obtain ⟨b, hb, _⟩ := (h.own i hi).ints
  exact ⟨gb, _, b, rfl, h.cell i hi, hb⟩

/-- Rows of one's own, that have grown one behind the other. -/
structure OwnR (w : World) (B : Nat) (v : Value) (vs : List Value) (xs : List (List Int)) : Prop where
  row : w.ownsRow B 27 1 v vs.length vs
  len : vs.length = xs.length
  own : ∀ i, i < xs.length → OwnI w B 3 (vs.getD i undef) (xs.getD i [])
theorem OwnR.upd {w w' : World} {B : Nat} {v : Value} {vs : List Value} {xs : List (List Int)} {T : List Nat} (h : OwnR w B v vs xs) (hu : Upd T w w') (h1 : ∀ k, v.ownBlock = some k → k ∉ T) (h2 : ∀ i, i < xs.length → ∀ k, (vs.getD i undef).ownBlock = some k → k ∉ T) : OwnR w' B v vs xs :=
  ⟨row_upd h.row hu h1, h.len, fun i hi => (h.own i hi).upd hu (h2 i hi)⟩
theorem OwnR.cell {w : World} {B : Nat} {p : Option Addr} {c : Nat} {vs : List Value} {xs : List (List Int)} (h : OwnR w B (.slice p xs.length c) vs xs) (i : Nat) (hi : i < xs.length) : ∃ gb, p = some ⟨gb, 0, none⟩ ∧ B ≤ gb ∧ gb < w.heap.size ∧ w.cell? ⟨gb, i, none⟩ = some (vs.getD i undef) := by
  have hlen := h.len
  rcases h.row.2 with ⟨h1, h2⟩ | ⟨gk, ck, _, h1, hb, hg, _⟩
  · omega
  · injection h1 with h1 _ _
    subst h1
    refine ⟨gk, rfl, hb, lt_of_heap hg, ?_⟩
    have h3 := h.row.cells (g := gk) rfl i (vs.getD i undef) (by
      rw [List.getD_eq_getElem?_getD, List.getElem?_eq_getElem (show i < vs.length by omega)]; rfl)
    rwa [Addr.add_lit, Nat.zero_add] at h3
theorem OwnR.form {w : World} {B : Nat} {v : Value} {vs : List Value} {xs : List (List Int)} (h : OwnR w B v vs xs) : ∃ p c, v = .slice p xs.length c ∧ xs.length ≤ maxLen := by
  have hlen := h.len
  rcases h.row.2 with ⟨h1, h2⟩ | ⟨gk, ck, _, h1, _, _, hc, hcm, _⟩
  · exact ⟨none, 0, by rw [h1]; rw [hlen] at h2; rw [h2], by rw [← hlen, h2]; simp [maxLen]⟩
  · exact ⟨_, _, by rw [h1, hlen], by rw [← hlen]; exact Nat.le_trans hc hcm⟩
theorem OwnR.rowsZ {w : World} {B : Nat} {v : Value} {vs : List Value} {xs : List (List Int)} (h : OwnR w B v vs xs) : RowsZ w v xs := by
  obtain ⟨p, c, rfl, hm⟩ := h.form
  refine ⟨p, c, rfl, hm, fun i hi => ?_⟩
  obtain ⟨gb, e, _, _, hc⟩ := h.cell i hi
  obtain ⟨b, hb, _⟩ := (h.own i hi).ints
  exact ⟨gb, _, b, e, hc, hb⟩
theorem OwnR.nil (w : World) (B : Nat) : OwnR w B (.slice none 0 0) [] [] := ⟨World.ownsRow_nil _ _ _ _, rfl, fun i hi => by simp at hi⟩
/-- A row more, of one's own too. -/
theorem OwnR.snoc {w w' : World} {B : Nat} {v v' rv : Value} {vs : List Value} {xs : List (List Int)} {l : List Int} {o : Obj} (h : OwnR w B v vs xs) (hl : OwnI w B 3 rv l)
    (hown : w'.ownsRow B 27 1 v' (vs.length + 1) (vs ++ [rv])) (hgr : (w.alloc o).grownBy w' v.ownBlock) : OwnR w' B v' (vs ++ [rv]) (xs ++ [l]) := by
  have hlen := h.len
  have hu : Upd v.ownBlock.toList w w' := ((Upd.refl _ w).alloc o).grown hgr (fun q hq => Or.inl (Option.mem_toList.2 hq))
  have hne : ∀ u ys, OwnI w B 3 u ys → ∀ k, u.ownBlock = some k → k ∉ v.ownBlock.toList := fun u ys hu2 k hk hm => own_ne h.row hu2 (by decide) k (Option.mem_toList.1 hm) hk
  refine ⟨by simpa using hown, by simp [hlen], fun i hi => ?_⟩
  by_cases e : i < xs.length
  · have e1 : (vs ++ [rv]).getD i undef = vs.getD i undef := by
      rw [List.getD_eq_getElem?_getD, List.getD_eq_getElem?_getD, List.getElem?_append_left (by omega)]
    have e2 : (xs ++ [l]).getD i [] = xs.getD i [] := by
      rw [List.getD_eq_getElem?_getD, List.getD_eq_getElem?_getD, List.getElem?_append_left e]
    rw [e1, e2]
    exact (h.own i e).upd hu (hne _ _ (h.own i e))
  · have hi2 : i = xs.length := by simp at hi; omega
    subst hi2
    have e1 : (vs ++ [rv]).getD xs.length undef = rv := by rw [← hlen]; simp [List.getD_eq_getElem?_getD]
    have e2 : (xs ++ [l]).getD xs.length [] = l := by simp [List.getD_eq_getElem?_getD]
    rw [e1, e2]
    exact hl.upd hu (hne _ _ hl)

end Go.Proofs.YtjjkliifpdcliaaDoor
