/- A slice of slices of integers: as it comes in; and one of one's own, whose rows grow. -/
import Derived.Test.YtjjkliifpdcliaaDoorSorted2
import Derived.Test.YtjjkliifpdcliaaDoorOwnNe
namespace Go.Proofs.YtjjkliifpdcliaaDoor
open Go.RowKit

/-- A slice value reads as these integers, wherever they lie. -/
def RowIn (w : World) (v : Value) (xs : List Int) : Prop :=
  ∃ a cap, v = .slice a xs.length cap ∧ xs.length ≤ 20000000000000 ∧ ∀ j, j < xs.length → ∃ b o, a = some ⟨b, o, none⟩ ∧ (-9223372036854775808 ≤ xs.getD j 0 ∧ xs.getD j 0 ≤ 9223372036854775807) ∧ w.cell? ⟨b, o + j, none⟩ = some (.int .i64 (xs.getD j 0))

theorem RowIn.upd {w w' : World} {v : Value} {xs : List Int} (h : RowIn w v xs) (hu : Upd [] w w') : RowIn w' v xs := by
  obtain ⟨a, cap, h1, h3, h4⟩ := h
  refine ⟨a, cap, h1, h3, fun j hj => ?_⟩
  obtain ⟨b, o, h5, h6, h7⟩ := h4 j hj
  exact ⟨b, o, h5, h6, hu.cell h7 (by simp)⟩

/-- A slice value reads as these rows. -/
def RowsAt (w : World) (v : Value) (g : List (List Int)) : Prop :=
  ∃ a cap, v = .slice a g.length cap ∧ g.length ≤ maxLen ∧ ∀ i, i < g.length → ∃ b o rv, a = some ⟨b, o, none⟩ ∧ w.cell? ⟨b, o + i, none⟩ = some rv ∧ RowIn w rv (g.getD i [])

theorem RowsAt.upd {w w' : World} {v : Value} {g : List (List Int)} (h : RowsAt w v g) (hu : Upd [] w w') : RowsAt w' v g := by
  obtain ⟨a, cap, h1, h3, h4⟩ := h
  refine ⟨a, cap, h1, h3, fun i hi => ?_⟩
  obtain ⟨b, o, rv, h5, h6, h7⟩ := h4 i hi
  exact ⟨b, o, rv, h5, hu.cell h6 (by simp), h7.upd hu⟩

/-- Rows of one's own: the slice's block, and each row's. -/
structure OwnL (w : World) (G B gb : Nat) (vs : List Value) (xs : List (List Int)) : Prop where
  blk : w.heap[gb]? = some (.cells vs.toArray 27)
  ge : G ≤ gb
  gle : G ≤ B
  len : vs.length = xs.length
  own : ∀ i, i < xs.length → OwnI w B 3 (vs.getD i undef) (xs.getD i [])
  apart : ∀ i j, i < xs.length → j < xs.length → i ≠ j → ∀ k, (vs.getD i undef).ownBlock = some k → (vs.getD j undef).ownBlock ≠ some k

theorem OwnL.upd {w w' : World} {G B gb : Nat} {vs : List Value} {xs : List (List Int)} {T : List Nat} (h : OwnL w G B gb vs xs) (hu : Upd T w w') (h1 : gb ∉ T) (h2 : ∀ i, i < xs.length → ∀ k, (vs.getD i undef).ownBlock = some k → k ∉ T) : OwnL w' G B gb vs xs :=
  ⟨hu.heap h.blk h1, h.ge, h.gle, h.len, fun i hi => (h.own i hi).upd hu (h2 i hi), h.apart⟩
/-- Blocks below the rows' are none of them. -/
theorem OwnL.low {w w' : World} {G B gb : Nat} {vs : List Value} {xs : List (List Int)} {T : List Nat} (h : OwnL w G B gb vs xs) (hu : Upd T w w') (hT : ∀ k ∈ T, k < G) : OwnL w' G B gb vs xs :=
  h.upd hu (fun hm => by have := hT _ hm; have := h.ge; omega) (fun i hi k hk hm => by have := ((h.own i hi).lt k hk).1; have := hT _ hm; have := h.gle; omega)

/-- A made slice of n empty rows. -/
theorem OwnL.made (w : World) (G B n : Nat) (hB : G ≤ w.heap.size) (hGB : G ≤ B) : OwnL (w.alloc (.cells (List.replicate n (Value.slice none 0 0)).toArray 27)) G B w.heap.size (List.replicate n (Value.slice none 0 0)) (List.replicate n []) := by
  refine ⟨heap_alloc_new w _, hB, hGB, by simp, fun i hi => ?_, fun i j hi hj _ k hk => ?_⟩
  · rw [List.length_replicate] at hi
    rw [List.getD_eq_getElem?_getD, List.getD_eq_getElem?_getD, List.getElem?_replicate, List.getElem?_replicate, if_pos hi, if_pos hi]
    exact OwnI.nil _ _ _
  · rw [List.length_replicate] at hi
    rw [List.getD_eq_getElem?_getD, List.getElem?_replicate, if_pos hi] at hk
    simp [Value.ownBlock] at hk

/-- Rows that are all nil. -/
theorem OwnL.nils {w : World} {G B gb n : Nat} (hb : w.heap[gb]? = some (.cells (List.replicate n (Value.slice none 0 0)).toArray 27)) (h1 : G ≤ gb) (h2 : G ≤ B) : OwnL w G B gb (List.replicate n (Value.slice none 0 0)) (List.replicate n []) := by
  refine ⟨hb, h1, h2, by simp, fun i hi => ?_, fun i j hi hj _ k hk => ?_⟩
  · rw [List.length_replicate] at hi
    rw [List.getD_eq_getElem?_getD, List.getD_eq_getElem?_getD, List.getElem?_replicate, List.getElem?_replicate, if_pos hi, if_pos hi]
    exact OwnI.nil _ _ _
  · rw [List.length_replicate] at hi
    rw [List.getD_eq_getElem?_getD, List.getElem?_replicate, if_pos hi] at hk
    simp [Value.ownBlock] at hk

/-- A row's cell. -/
theorem OwnL.cell {w : World} {G B gb : Nat} {vs : List Value} {xs : List (List Int)} (h : OwnL w G B gb vs xs) (i : Nat) (hi : i < xs.length) : w.cell? ⟨gb, i, none⟩ = some (vs.getD i undef) := by
  rw [cell_of h.blk]
  have := h.len
  simp [List.getD_eq_getElem?_getD, List.getElem?_eq_getElem (show i < vs.length by omega)]

theorem getD_set_ne {α : Type} (l : List α) (i j : Nat) (x d : α) (h : i ≠ j) : (l.set i x).getD j d = l.getD j d := by
  rw [List.getD_eq_getElem?_getD, List.getElem?_set_ne h, List.getD_eq_getElem?_getD]
theorem getD_set_eq {α : Type} (l : List α) (i : Nat) (x d : α) (h : i < l.length) : (l.set i x).getD i d = x := by
  rw [List.getD_eq_getElem?_getD, List.getElem?_set_self h]; rfl

/-- A row is grown by one, and stored back. -/
theorem OwnL.push {w w' : World} {G B gb : Nat} {vs : List Value} {xs : List (List Int)} {v' : Value} {x : Int} {o : Obj} (h : OwnL w G B gb vs xs) (i : Nat) (hi : i < xs.length)
    (hown : w'.ownsRow B 3 1 v' ((xs.getD i []).length + 1) ((xs.getD i []).map (Value.int .i64) ++ [.int .i64 x]))
    (hgr : (w.alloc o).grownBy w' (vs.getD i undef).ownBlock) (hat : v'.ownBlock = (vs.getD i undef).ownBlock ∨ v'.ownBlock = some (w.alloc o).heap.size) :
    w'.heap[gb]? = some (.cells vs.toArray 27) ∧ OwnL (w'.setCell ⟨gb, i, none⟩ v') G B gb (vs.set i v') (xs.set i (xs.getD i [] ++ [x])) ∧ Upd (gb :: (vs.getD i undef).ownBlock.toList) w (w'.setCell ⟨gb, i, none⟩ v') ∧ (∀ k ∈ gb :: (vs.getD i undef).ownBlock.toList, k = gb ∨ B ≤ k) := by
  have hu : Upd (vs.getD i undef).ownBlock.toList w w' := ((Upd.refl _ w).alloc o).grown hgr (fun q hq => Or.inl (Option.mem_toList.2 hq))
  have hgn : ∀ j, j < xs.length → (vs.getD j undef).ownBlock ≠ some gb := fun j hj => own_heap_ne (h.own j hj) h.blk (by decide)
  have hb' := hu.heap h.blk (fun hm => hgn i hi (Option.mem_toList.1 hm))
  have hs : Upd [gb] w' (w'.setCell ⟨gb, i, none⟩ v') := (Upd.refl _ _).setCell (Or.inl (by simp)) _
  have hlen := h.len
  have hv' : v'.ownBlock ≠ some gb := by
    rcases hat with e | e
    · rw [e]; exact hgn i hi
    · rw [e]
      have := lt_of_heap h.blk
      simp
      omega
  refine ⟨hb', ⟨?_, h.ge, h.gle, by simp [hlen], fun j hj => ?_, fun a b ha hb hab k hk => ?_⟩, ?_, fun k hk => ?_⟩
  · rw [heap_setCell hb']
    simp
  · rw [List.length_set] at hj
    by_cases e : i = j
    · subst e
      rw [getD_set_eq _ _ _ _ (by omega), getD_set_eq _ _ _ _ hi]
      exact (OwnI.snoc hown).upd hs (fun k hk hm => by simp at hm; exact hv' (hm ▸ hk))
    · rw [getD_set_ne _ _ _ _ _ e, getD_set_ne _ _ _ _ _ e]
      exact ((h.own j hj).upd hu (fun k hk hm => h.apart j i hj hi (fun e' => e e'.symm) k hk (Option.mem_toList.1 hm))).upd hs (fun k hk hm => by simp at hm; exact hgn j hj (hm ▸ hk))
  · rw [List.length_set] at ha hb
    have hlt : ∀ j, j < xs.length → (vs.getD j undef).ownBlock ≠ some (w.alloc o).heap.size := fun j hj e' => by
      have := ((h.own j hj).lt _ e').2
      simp at this
      omega
    by_cases e : i = a
    · subst e
      rw [getD_set_eq _ _ _ _ (by omega)] at hk
      rw [getD_set_ne _ _ _ _ _ hab]
      rcases hat with e' | e'
      · exact h.apart i b hi hb hab k (e' ▸ hk)
      · rw [e'] at hk
        injection hk with hk
        exact hk ▸ hlt b hb
    · rw [getD_set_ne _ _ _ _ _ e] at hk
      by_cases e2 : i = b
      · subst e2
        rw [getD_set_eq _ _ _ _ (by omega)]
        rcases hat with e' | e'
        · rw [e']; exact h.apart a i ha hi hab k hk
        · rw [e']
          intro e3
          injection e3 with e3
          exact hlt a ha (e3 ▸ hk)
      · rw [getD_set_ne _ _ _ _ _ e2]
        exact h.apart a b ha hb hab k hk
  · exact (hu.mono (fun q hq _ => List.mem_cons_of_mem _ hq)).trans (hs.mono (fun q hq _ => by simp at hq; simp [hq]))
  · rcases List.mem_cons.1 hk with rfl | hk
    · exact .inl rfl
    · exact .inr ((h.own i hi).lt k (Option.mem_toList.1 hk)).1

/-- A row of one's own, read. -/
theorem OwnI.rowIn {w : World} {B : Nat} {e : TypeId} {v : Value} {xs : List Int} (h : OwnI w B e v xs) (hx : ∀ x ∈ xs, -9223372036854775808 ≤ x ∧ x ≤ 9223372036854775807) (hl : xs.length ≤ 20000000000000) : RowIn w v xs := by
  rcases h.form with ⟨rfl, rfl⟩ | ⟨g, c, rfl, h2, _, _, h5⟩
  · exact ⟨none, 0, rfl, by simp, by simp⟩
  · refine ⟨_, c, rfl, hl, fun j hj => ⟨g, 0, rfl, ?_, by rw [Nat.zero_add]; exact h5 j hj⟩⟩
    rw [List.getD_eq_getElem?_getD, List.getElem?_eq_getElem hj]
    exact hx _ (List.getElem_mem hj)

/-- Rows of one's own, read. -/
theorem OwnL.rows {w : World} {G B gb : Nat} {vs : List Value} {xs : List (List Int)} (h : OwnL w G B gb vs xs) (cap : Nat) (hx : ∀ l ∈ xs, ∀ x ∈ l, -9223372036854775808 ≤ x ∧ x ≤ 9223372036854775807) (hl : ∀ l ∈ xs, l.length ≤ 20000000000000) (hn : xs.length ≤ maxLen) :
    RowsAt w (.slice (some ⟨gb, 0, none⟩) xs.length cap) xs := by
  refine ⟨_, cap, rfl, hn, fun i hi => ⟨gb, 0, _, rfl, by rw [Nat.zero_add]; exact h.cell i hi, ?_⟩⟩
  have hm : xs.getD i [] ∈ xs := by
    rw [List.getD_eq_getElem?_getD, List.getElem?_eq_getElem hi]
    exact List.getElem_mem hi
  exact (h.own i hi).rowIn (hx _ hm) (hl _ hm)

end Go.Proofs.YtjjkliifpdcliaaDoor
