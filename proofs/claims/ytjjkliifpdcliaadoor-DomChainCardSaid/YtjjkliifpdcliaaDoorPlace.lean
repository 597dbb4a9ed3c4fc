/- A new row laid into a slice of rows; rows that go on to the next place. -/
import Derived.Test.YtjjkliifpdcliaaDoorLists
import Derived.Test.YtjjkliifpdcliaaDoorCleanL
import Derived.Test.YtjjkliifpdcliaaDoorWalkP
namespace Go.Proofs.YtjjkliifpdcliaaDoor
open Go.RowKit

/-- A literal row is one's own. -/
theorem OwnI.lit (w : World) (B : Nat) (xs : List Int) (hB : B ≤ w.heap.size) (hl : xs.length ≤ 1000) : OwnI (w.alloc (.cells (icells xs) 3)) B 3 (.slice (some ⟨w.heap.size, 0, none⟩) xs.length xs.length) xs := by
  refine ⟨by simp, .inr ⟨w.heap.size, xs.length, _, rfl, hB, heap_alloc_new w _, Nat.le_refl _, by unfold maxLen; omega, by rw [icells_size]; omega, ?_⟩⟩
  rw [Nat.mul_one]
  simp only [icells]
  rw [List.take_of_length_le (by simp)]

theorem OwnL.place {w : World} {G B gb : Nat} {vs : List Value} {xs : List (List Int)} (h : OwnL w G B gb vs xs) (hB : B ≤ w.heap.size) (i : Nat) (hi : i < xs.length) (ys : List Int) (hl : ys.length ≤ 1000) :
    OwnL ((w.alloc (.cells (icells ys) 3)).setCell ⟨gb, i, none⟩ (.slice (some ⟨w.heap.size, 0, none⟩) ys.length ys.length)) G B gb (vs.set i (.slice (some ⟨w.heap.size, 0, none⟩) ys.length ys.length)) (xs.set i ys)
      ∧ Upd [gb] w ((w.alloc (.cells (icells ys) 3)).setCell ⟨gb, i, none⟩ (.slice (some ⟨w.heap.size, 0, none⟩) ys.length ys.length)) := by
  have hu := (Upd.refl [] w).alloc (.cells (icells ys) 3)
  have h2 := h.upd hu (by simp) (by simp)
  have hs : Upd [gb] (w.alloc (.cells (icells ys) 3)) ((w.alloc (.cells (icells ys) 3)).setCell ⟨gb, i, none⟩ (.slice (some ⟨w.heap.size, 0, none⟩) ys.length ys.length)) := (Upd.refl _ _).setCell (Or.inl (by simp)) _
  have hgn : ∀ j, j < xs.length → (vs.getD j undef).ownBlock ≠ some gb := fun j hj => own_heap_ne (h.own j hj) h.blk (by decide)
  have hlen := h.len
  have hgb := lt_of_heap h.blk
  have hlt : ∀ j, j < xs.length → (vs.getD j undef).ownBlock ≠ some w.heap.size := fun j hj e' => by
    have := ((h.own j hj).lt _ e').2
    omega
  refine ⟨⟨?_, h.ge, h.gle, by simp [hlen], fun j hj => ?_, fun a b ha hb hab k hk => ?_⟩, (hu.mono (fun q hq _ => by simp at hq)).trans hs⟩
  · rw [heap_setCell h2.blk]
    simp
  · rw [List.length_set] at hj
    by_cases e : i = j
    · subst e
      rw [getD_set_eq _ _ _ _ (by omega), getD_set_eq _ _ _ _ hi]
      refine (OwnI.lit w B ys hB hl).upd hs (fun k hk hm => ?_)
      simp [Value.ownBlock] at hk hm
      omega
    · rw [getD_set_ne _ _ _ _ _ e, getD_set_ne _ _ _ _ _ e]
      exact (h2.own j hj).upd hs (fun k hk hm => by simp at hm; exact hgn j hj (hm ▸ hk))
  · rw [List.length_set] at ha hb
    by_cases e : i = a
    · subst e
      rw [getD_set_eq _ _ _ _ (by omega)] at hk
      rw [getD_set_ne _ _ _ _ _ hab]
      simp [Value.ownBlock] at hk
      exact hk ▸ hlt b hb
    · rw [getD_set_ne _ _ _ _ _ e] at hk
      by_cases e2 : i = b
      · subst e2
        rw [getD_set_eq _ _ _ _ (by omega)]
        intro e3
        simp [Value.ownBlock] at e3
        exact hlt a ha (e3 ▸ hk)
      · rw [getD_set_ne _ _ _ _ _ e2]
        exact h.apart a b ha hb hab k hk

def tabL (n : Nat) (h : Nat → List Nat) : List (List Nat) := (List.range n).map h
theorem tabL_len (n : Nat) (h : Nat → List Nat) : (tabL n h).length = n := by simp [tabL]
theorem tabL_get (n : Nat) (h : Nat → List Nat) (i : Nat) (hi : i < n) : (tabL n h).getD i [] = h i := by simp [tabL, List.getD_eq_getElem?_getD, hi]
theorem tabL_set (n : Nat) (h k : Nat → List Nat) (i : Nat) (v : List Nat) (e : ∀ j, j < n → k j = if j = i then v else h j) : (tabL n h).set i v = tabL n k := by
  unfold tabL
  apply List.ext_getElem
  · simp
  · intro j h1 h2
    simp only [List.getElem_set, List.getElem_map, List.getElem_range]
    rw [e j (by simpa using h2)]
    by_cases e2 : i = j
    · subst e2; simp
    · rw [if_neg e2, if_neg (Ne.symm e2)]
theorem tabL_congr (n : Nat) (h k : Nat → List Nat) (e : ∀ j, j < n → h j = k j) : tabL n h = tabL n k :=
  List.map_congr_left (fun j hj => e j (List.mem_range.1 hj))
/-- The rows behind m rounds of the first loop, of the second. -/
def rowsA (n m : Nat) : List (List Nat) := tabL n fun k => if k < m then [k + 1] else []
theorem rowsA_len (n m : Nat) : (rowsA n m).length = n := tabL_len _ _
theorem rowsA_zero (n : Nat) : intsL (rowsA n 0) = List.replicate n [] := by
  unfold rowsA tabL intsL
  apply List.ext_getElem
  · simp
  · intro i h1 h2; simp [ints]
theorem rowsA_step (n m : Nat) : (intsL (rowsA n m)).set m [(m : Int) + 1] = intsL (rowsA n (m + 1)) := by
  have e : ([(m : Int) + 1] : List Int) = ints [m + 1] := by simp [ints]
  rw [e, intsL_set]
  congr 1
  refine tabL_set _ _ _ _ _ (fun j _ => ?_)
  by_cases e : j = m
  · rw [if_pos e, if_pos (by omega), e]
  · rw [if_neg e]
    by_cases e2 : j < m
    · rw [if_pos e2, if_pos (by omega)]
    · rw [if_neg e2, if_neg (by omega)]

end Go.Proofs.YtjjkliifpdcliaaDoor
