/- FlowChain: a row that is laid into a slice of rows; the rows as they grow. -/
import Derived.Test.YtagjchgpcekmnaaDoorChainL
import Derived.Test.YtagjchgpcekmnaaDoorNext
import Derived.Test.YtagjchgpcekmnaaDoorLists
namespace Go.Proofs.YtagjchgpcekmnaaDoor
open Go.RowKit

theorem OwnL.place {w : World} {G B gb : Nat} {vs : List Value} {xs : List (List Int)} (h : OwnL w G B gb vs xs) (hB : B ≤ w.heap.size) (i : Nat) (hi : i < xs.length) (ys : List Int) (hl : ys.length ≤ 1000) :
    OwnL ((w.alloc (.cells (icells ys) 3)).setCell ⟨gb, i, none⟩ (.slice (some ⟨w.heap.size, 0, none⟩) ys.length ys.length)) G B gb (vs.set i (.slice (some ⟨w.heap.size, 0, none⟩) ys.length ys.length)) (xs.set i ys)
      ∧ Upd [gb] w ((w.alloc (.cells (icells ys) 3)).setCell ⟨gb, i, none⟩ (.slice (some ⟨w.heap.size, 0, none⟩) ys.length ys.length)) := by
  have hu := (Upd.refl [] w).alloc (.cells (icells ys) 3)
  have h2 := h.upd hu (by simp) (by simp)
  have hs : Upd [gb] (w.alloc (.cells (icells ys) 3)) ((w.alloc (.cells (icells ys) 3)).setCell ⟨gb, i, none⟩ (.slice (some ⟨w.heap.size, 0, none⟩) ys.length ys.length)) := (Upd.refl _ _).setCell (Or.inl (by simp)) _
  have hgn : ∀ j, j < xs.length → (vs.getD j undef).ownBlock ≠ some gb := fun j hj => own_heap_ne (h.own j hj) h.blk (by decide)
  have hlen := h.len
  have hgb := lt_of_heap h.blk
  have hlt : ∀ j, j < xs.length → (vs.getD j undef).ownBlock ≠ some w.heap.size := fun j hj e' => by
    have := ((h.own j hj).lt _ e').2
    omega
  refine ⟨⟨?_, h.ge, h.gle, by simp [hlen], fun j hj => ?_, fun a b ha hb hab k hk => ?_⟩, (hu.mono (fun q hq _ => by simp at hq)).trans hs⟩
  · rw [heap_setCell h2.blk]
    simp
  · rw [List.length_set] at hj
    by_cases e : i = j
    · subst e
      rw [getD_set_eq _ _ _ _ (by omega), getD_set_eq _ _ _ _ hi]
      refine (OwnI.lit w B ys hB hl).upd hs (fun k hk hm => ?_)
      simp [Value.ownBlock] at hk hm
      omega
    · rw [getD_set_ne _ _ _ _ _ e, getD_set_ne _ _ _ _ _ e]
      exact (h2.own j hj).upd hs (fun k hk hm => by simp at hm; exact hgn j hj (hm ▸ hk))
  · rw [List.length_set] at ha hb
    by_cases e : i = a
    · subst e
      rw [getD_set_eq _ _ _ _ (by omega)] at hk
      rw [getD_set_ne _ _ _ _ _ hab]
      simp [Value.ownBlock] at hk
      exact hk ▸ hlt b hb
    · rw [getD_set_ne _ _ _ _ _ e] at hk
      by_cases e2 : i = b
      · subst e2
        rw [getD_set_eq _ _ _ _ (by omega)]
        intro e3
        simp [Value.ownBlock] at e3
        exact hlt a ha (e3 ▸ hk)
      · rw [getD_set_ne _ _ _ _ _ e2]
        exact h.apart a b ha hb hab k hk

def tabL (n : Nat) (h : Nat → List Nat) : List (List Nat) := (List.range n).map h
theorem tabL_len (n : Nat) (h : Nat → List Nat) : (tabL n h).length = n := by simp [tabL]
theorem tabL_get (n : Nat) (h : Nat → List Nat) (i : Nat) (hi : i < n) : (tabL n h).getD i [] = h i := by simp [tabL, List.getD_eq_getElem?_getD, hi]
theorem tabL_set (n : Nat) (h k : Nat → List Nat) (i : Nat) (v : List Nat) (e : ∀ j, j < n → k j = if j = i then v else h j) : (tabL n h).set i v = tabL n k := by
  unfold tabL
  apply List.ext_getElem
  · simp
  · intro j h1 h2
    simp only [List.getElem_set, List.getElem_map, List.getElem_range]
    rw [e j (by simpa using h2)]
    by_cases e2 : i = j
    · subst e2; simp
    · rw [if_neg e2, if_neg (Ne.symm e2)]
theorem tabL_congr (n : Nat) (h k : Nat → List Nat) (e : ∀ j, j < n → h j = k j) : tabL n h = tabL n k :=
  List.map_congr_left (fun j hj => e j (List.mem_range.1 hj))
/-- The rows behind m rounds of the first loop, of the second. -/
def rowsA (n m : Nat) : List (List Nat) := tabL n fun k => if k < m then [k + 1] else []
def rowsB (n : Nat) (f : Nat → Option Nat) (m : Nat) : List (List Nat) := tabL n fun k => (if k + 1 < n then [k + 1] else []) ++ if k < m then (f k).toList else []
theorem rowsA_len (n m : Nat) : (rowsA n m).length = n := tabL_len _ _
theorem rowsB_len (n : Nat) (f : Nat → Option Nat) (m : Nat) : (rowsB n f m).length = n := tabL_len _ _
theorem rowsA_zero (n : Nat) : intsL (rowsA n 0) = List.replicate n [] := by
  unfold rowsA tabL intsL
  apply List.ext_getElem
  · simp
  · intro i h1 h2; simp [ints]
theorem rowsA_step (n m : Nat) : (intsL (rowsA n m)).set m [(m : Int) + 1] = intsL (rowsA n (m + 1)) := by
  have e : ([(m : Int) + 1] : List Int) = ints [m + 1] := by simp [ints]
  rw [e, intsL_set]
  congr 1
  refine tabL_set _ _ _ _ _ (fun j _ => ?_)
  by_cases e : j = m
  · rw [if_pos e, if_pos (by omega), e]
  · rw [if_neg e]
    by_cases e2 : j < m
    · rw [if_pos e2, if_pos (by omega)]
    · rw [if_neg e2, if_neg (by omega)]
theorem rowsA_end (n m : Nat) (f : Nat → Option Nat) (h : ¬ m + 1 < n) (h2 : m < n) : rowsA n m = rowsB n f 0 := by
  refine tabL_congr _ _ _ (fun j hj => ?_)
  rw [if_neg (by omega : ¬ j < 0), List.append_nil]
  by_cases e : j < m
  · rw [if_pos e, if_pos (by omega)]
  · rw [if_neg e, if_neg (by omega)]
theorem rowsB_skip (n : Nat) (f : Nat → Option Nat) (m : Nat) (h : f m = none) : rowsB n f m = rowsB n f (m + 1) := by
  refine tabL_congr _ _ _ (fun j _ => ?_)
  congr 1
  by_cases e : j = m
  · subst e
    rw [h]; simp
  · by_cases e2 : j < m
    · rw [if_pos e2, if_pos (by omega)]
    · rw [if_neg e2, if_neg (by omega)]
theorem rowsB_get (n : Nat) (f : Nat → Option Nat) (m : Nat) (h : m < n) : (rowsB n f m).getD m [] = if m + 1 < n then [m + 1] else [] := by
  unfold rowsB
  rw [tabL_get _ _ _ h]
  simp
theorem rowsB_step (n : Nat) (f : Nat → Option Nat) (m t : Nat) (hm : m < n) (h : f m = some t) : (intsL (rowsB n f m)).set m ((intsL (rowsB n f m)).getD m [] ++ [(t : Int)]) = intsL (rowsB n f (m + 1)) := by
  rw [intsL_get, rowsB_get n f m hm, ← ints_snoc, intsL_set]
  congr 1
  refine tabL_set _ _ _ _ _ (fun j _ => ?_)
  by_cases e : j = m
  · subst e
    rw [if_pos rfl, if_pos (Nat.lt_succ_self j), h]; rfl
  · rw [if_neg e]
    congr 1
    by_cases e2 : j < m
    · rw [if_pos e2, if_pos (by omega)]
    · rw [if_neg e2, if_neg (by omega)]
theorem rowsB_end (n : Nat) (f : Nat → Option Nat) (m : Nat) (h : ∀ k, k < n → m ≤ k → f k = none) : rowsB n f m = chainC n f := by
  unfold rowsB chainC tabL crowN
  refine List.map_congr_left (fun j hj => ?_)
  rw [List.mem_range] at hj
  by_cases e : j < m
  · rw [if_pos e]
  · rw [if_neg e, h j hj (by omega)]; rfl
theorem cnt_end (f : Nat → Option Nat) (m : Nat) : ∀ n, m ≤ n → (∀ k, k < n → m ≤ k → f k = none) → cnt f m = cnt f n
  | 0, h, _ => by rw [show m = 0 by omega]
  | n + 1, h, hk => by
    by_cases e : m = n + 1
    · rw [e]
    · unfold cnt
      rw [hk n (by omega) (by omega), ← cnt_end f m n (by omega) (fun k h1 h2 => hk k (by omega) h2)]
      cases m <;> simp [cnt]
/-- Where place i goes back to. -/
def wayB (n : Nat) (xs : List Int) (i : Nat) : Option Nat :=
  if i < xs.length ∧ ((xs.getD i 0).tmod n + n).tmod n ≤ (i : Int) then some (((xs.getD i 0).tmod n + n).tmod n).toNat else none
theorem tmod_bd (a : Int) (n : Nat) (h : 0 < n) : -(n : Int) < a.tmod n ∧ a.tmod n < n := by
  have h1 := Int.tmod_lt_of_pos a (show (0 : Int) < n by omega)
  have h2 := Int.tmod_lt_of_pos (-a) (show (0 : Int) < n by omega)
  rw [Int.neg_tmod] at h2
  omega
theorem tmod2_bd (a : Int) (n : Nat) (h : 0 < n) : 0 ≤ (a.tmod n + n).tmod n ∧ (a.tmod n + n).tmod n < n := by
  have h1 := tmod_bd a n h
  exact ⟨Int.tmod_nonneg _ (by omega), Int.tmod_lt_of_pos _ (by omega)⟩
theorem wayB_le (n : Nat) (xs : List Int) (i t : Nat) (h : wayB n xs i = some t) : t ≤ i := by
  unfold wayB at h
  split at h
  · rename_i h2
    injection h with h
    omega
  · cases h
theorem wayB_over (n : Nat) (xs : List Int) (i : Nat) (h : xs.length ≤ i) : wayB n xs i = none := by
  unfold wayB
  rw [if_neg (by omega)]

theorem chain_bd (n : Nat) (f : Nat → Option Nat) (hf : ∀ i t, f i = some t → t ≤ i) : ∀ l ∈ intsL (chainC n f), l.length ≤ 2 ∧ ∀ x ∈ l, 0 ≤ x ∧ x < (n : Int) := fun l hl => by
  unfold intsL at hl
  rw [List.mem_map] at hl
  obtain ⟨r, hr, rfl⟩ := hl
  obtain ⟨i, hi, rfl⟩ := List.getElem_of_mem hr
  have hc := (chain_clean n f hf i hi).2
  have hi2 : i < n := by rw [chainC_len] at hi; exact hi
  have hg := chainC_get n f i hi2
  rw [List.getD_eq_getElem?_getD, List.getElem?_eq_getElem hi] at hc hg
  simp only [Option.getD_some] at hc hg
  refine ⟨?_, fun x hx => ?_⟩
  · rw [ints_len, hg]
    unfold crowN
    cases f i <;> split <;> simp
  · unfold ints at hx
    rw [List.mem_map] at hx
    obtain ⟨k, hk, rfl⟩ := hx
    have := hc k hk
    rw [chainC_len] at this
    omega
theorem row_pl {w : World} {B : Nat} {T : TypeId} {bv : Value} {n : Nat} {l : List Value} (h : w.ownsRow B T 1 bv n l) : ∃ p c, bv = .slice p n c ∧ n ≤ maxLen := by
  rcases h.2 with ⟨h1, h2⟩ | ⟨gk, ck, _, h1, _, _, hc, hcm, _⟩
  · exact ⟨none, 0, by rw [h1, h2], by rw [h2]; simp [maxLen]⟩
  · exact ⟨_, _, h1, Nat.le_trans hc hcm⟩

end Go.Proofs.YtagjchgpcekmnaaDoor
