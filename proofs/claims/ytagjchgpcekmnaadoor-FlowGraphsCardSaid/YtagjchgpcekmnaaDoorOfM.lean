/- Blocks in memory: each block's four cells, its two rows of one's own. -/
import Derived.Test.YtagjchgpcekmnaaDoorOfL
import Derived.Test.YtagjchgpcekmnaaDoorOwnNe
namespace Go.Proofs.YtagjchgpcekmnaaDoor
open Go.RowKit

/-- Blocks of one's own, and each one's two rows. -/
structure OwnC (w : World) (G B gb n : Nat) (pre : List Nat) (vs : List Value) (xs : List (List Int)) : Prop where
  blk : ∃ cur : Array Value, w.heap[gb]? = some (.cells cur 41) ∧ cur.toList.take (4 * pre.length) = bflat n pre vs
  ge : G ≤ gb
  gle : G ≤ B
  two : xs.length = 2 * pre.length
  len : vs.length = xs.length
  own : ∀ i, i < xs.length → OwnI w B 3 (vs.getD i undef) (xs.getD i [])
  apart : ∀ i j, i < xs.length → j < xs.length → i ≠ j → ∀ k, (vs.getD i undef).ownBlock = some k → (vs.getD j undef).ownBlock ≠ some k

theorem OwnC.upd {w w' : World} {G B gb n : Nat} {pre : List Nat} {vs : List Value} {xs : List (List Int)} {T : List Nat} (h : OwnC w G B gb n pre vs xs) (hu : Upd T w w') (h1 : gb ∉ T) (h2 : ∀ i, i < xs.length → ∀ k, (vs.getD i undef).ownBlock = some k → k ∉ T) : OwnC w' G B gb n pre vs xs := by
  obtain ⟨cur, h3, h4⟩ := h.blk
  exact ⟨⟨cur, hu.heap h3 h1, h4⟩, h.ge, h.gle, h.two, h.len, fun i hi => (h.own i hi).upd hu (h2 i hi), h.apart⟩
theorem OwnC.low {w w' : World} {G B gb n : Nat} {pre : List Nat} {vs : List Value} {xs : List (List Int)} {T : List Nat} (h : OwnC w G B gb n pre vs xs) (hu : Upd T w w') (hT : ∀ k ∈ T, k < G) : OwnC w' G B gb n pre vs xs :=
  h.upd hu (fun hm => by have := hT _ hm; have := h.ge; omega) (fun i hi k hk hm => by have := ((h.own i hi).lt k hk).1; have := hT _ hm; have := h.gle; omega)

theorem take_get {α : Type} {l m : List α} {k q : Nat} (h : l.take k = m) (hq : q < k) : l[q]? = m[q]? := by
  rw [← h, List.getElem?_take_of_lt hq]

/-- A block's cell. -/
theorem OwnC.cell {w : World} {G B gb n : Nat} {pre : List Nat} {vs : List Value} {xs : List (List Int)} (h : OwnC w G B gb n pre vs xs) (q : Nat) (hq : q < 4 * pre.length) : w.cell? ⟨gb, q, none⟩ = some (bcell n pre vs q) := by
  obtain ⟨cur, h1, h2⟩ := h.blk
  rw [cell_of h1]
  have := take_get h2 hq
  rw [bflat_get _ _ _ _ hq] at this
  simpa using this
theorem OwnC.fr {w : World} {G B gb n : Nat} {pre : List Nat} {vs : List Value} {xs : List (List Int)} (h : OwnC w G B gb n pre vs xs) (i : Nat) (hi : i < pre.length) : w.cell? ⟨gb, i * 4, none⟩ = some (.int .i64 (pre.getD i 0 : Nat)) := by
  rw [h.cell (i * 4) (by omega)]
  unfold bcell
  rw [if_pos (by omega), show i * 4 / 4 = i by omega]
theorem OwnC.to {w : World} {G B gb n : Nat} {pre : List Nat} {vs : List Value} {xs : List (List Int)} (h : OwnC w G B gb n pre vs xs) (i : Nat) (hi : i < pre.length) : w.cell? ⟨gb, i * 4 + 1, none⟩ = some (.int .i64 (pre.getD (i + 1) n : Nat)) := by
  rw [h.cell (i * 4 + 1) (by omega)]
  unfold bcell
  rw [if_neg (by omega), if_pos (by omega), show (i * 4 + 1) / 4 = i by omega]
theorem OwnC.row {w : World} {G B gb n : Nat} {pre : List Nat} {vs : List Value} {xs : List (List Int)} (h : OwnC w G B gb n pre vs xs) (i r : Nat) (hi : i < pre.length) (hr : r < 2) : w.cell? ⟨gb, i * 4 + (2 + r), none⟩ = some (vs.getD (2 * i + r) undef) := by
  rw [h.cell (i * 4 + (2 + r)) (by omega)]
  unfold bcell
  rw [if_neg (by omega), if_neg (by omega), show 2 * ((i * 4 + (2 + r)) / 4) + ((i * 4 + (2 + r)) % 4 - 2) = 2 * i + r by omega]
  have h1 := h.len
  have h2 := h.two
  rw [List.getD_eq_getElem?_getD, List.getD_eq_getElem?_getD, List.getElem?_eq_getElem (by omega)]
  rfl
theorem OwnC.froz {w : World} {G B gb n : Nat} {pre : List Nat} {vs : List Value} {xs : List (List Int)} (h : OwnC w G B gb n pre vs xs) (q : Nat) : w.frozen? ⟨gb, q, none⟩ = false := by
  obtain ⟨cur, h1, _⟩ := h.blk
  exact froz_of h1 q

/-- Blocks without rows. -/
theorem OwnC.start {w : World} {G B gb n : Nat} {pre : List Nat} {cur : Array Value} (hb : w.heap[gb]? = some (.cells cur 41)) (hc : cur.toList.take (4 * pre.length) = bflat n pre []) (h1 : G ≤ gb) (h2 : G ≤ B) :
    OwnC w G B gb n pre (List.replicate (2 * pre.length) (.slice none 0 0)) (List.replicate (2 * pre.length) []) := by
  refine ⟨⟨cur, hb, ?_⟩, h1, h2, by simp, by simp, fun i hi => ?_, fun i j hi hj _ k hk => ?_⟩
  · rw [hc]
    unfold bflat
    refine List.map_congr_left (fun q hq => ?_)
    rw [List.mem_range] at hq
    unfold bcell
    split
    · rfl
    · split
      · rfl
      · simp only [List.getD_eq_getElem?_getD, List.getElem?_replicate]
        split <;> rfl
  · rw [List.length_replicate] at hi
    rw [List.getD_eq_getElem?_getD, List.getD_eq_getElem?_getD, List.getElem?_replicate, List.getElem?_replicate, if_pos hi, if_pos hi]
    exact OwnI.nil _ _ _
  · rw [List.length_replicate] at hi
    rw [List.getD_eq_getElem?_getD, List.getElem?_replicate, if_pos hi] at hk
    simp [Value.ownBlock] at hk

/-- A row is grown by one, and stored back. -/
theorem OwnC.push {w w' : World} {G B gb n : Nat} {pre : List Nat} {vs : List Value} {xs : List (List Int)} {v' : Value} {x : Int} {o : Obj} (h : OwnC w G B gb n pre vs xs) (b r : Nat) (hb : b < pre.length) (hr : r < 2)
    (hown : w'.ownsRow B 3 1 v' ((xs.getD (2 * b + r) []).length + 1) ((xs.getD (2 * b + r) []).map (Value.int .i64) ++ [.int .i64 x]))
    (hgr : (w.alloc o).grownBy w' (vs.getD (2 * b + r) undef).ownBlock) (hat : v'.ownBlock = (vs.getD (2 * b + r) undef).ownBlock ∨ v'.ownBlock = some (w.alloc o).heap.size) :
    w'.frozen? ⟨gb, b * 4 + (2 + r), none⟩ = false ∧ w'.cell? ⟨gb, b * 4 + (2 + r), none⟩ = some (vs.getD (2 * b + r) undef) ∧ OwnC (w'.setCell ⟨gb, b * 4 + (2 + r), none⟩ v') G B gb n pre (vs.set (2 * b + r) v') (xs.set (2 * b + r) (xs.getD (2 * b + r) [] ++ [x])) ∧ Upd (gb :: (vs.getD (2 * b + r) undef).ownBlock.toList) w (w'.setCell ⟨gb, b * 4 + (2 + r), none⟩ v') ∧ (∀ k ∈ gb :: (vs.getD (2 * b + r) undef).ownBlock.toList, k = gb ∨ B ≤ k) := by
  have htwo := h.two
  have hlen := h.len
  have hi : 2 * b + r < xs.length := by omega
  have hcr := h.row b r hb hr
  have hrow : bcell n pre vs (b * 4 + (2 + r)) = bcell n pre vs (4 * b + 2 + r) := by rw [show b * 4 + (2 + r) = 4 * b + 2 + r by omega]
  obtain ⟨cur, hblk, hcur⟩ := h.blk
  have hu : Upd (vs.getD (2 * b + r) undef).ownBlock.toList w w' := ((Upd.refl _ w).alloc o).grown hgr (fun q hq => Or.inl (Option.mem_toList.2 hq))
  have hgn : ∀ j, j < xs.length → (vs.getD j undef).ownBlock ≠ some gb := fun j hj => own_heap_ne (h.own j hj) hblk (by decide)
  have hnm : gb ∉ (vs.getD (2 * b + r) undef).ownBlock.toList := fun hm => hgn _ hi (Option.mem_toList.1 hm)
  have hb' := hu.heap hblk hnm
  have hs : Upd [gb] w' (w'.setCell ⟨gb, b * 4 + (2 + r), none⟩ v') := (Upd.refl _ _).setCell (Or.inl (by simp)) _
  have hv' : v'.ownBlock ≠ some gb := by
    rcases hat with e | e
    · rw [e]; exact hgn _ hi
    · rw [e]
      have := lt_of_heap hblk
      simp
      omega
  refine ⟨froz_of hb' _, hu.cell hcr hnm, ⟨⟨cur.setIfInBounds (b * 4 + (2 + r)) v', heap_setCell hb' _ _, ?_⟩, h.ge, h.gle, by simpa using htwo, by simp [hlen], fun j hj => ?_, fun a c ha hc hac k hk => ?_⟩, ?_, fun k hk => ?_⟩
  · rw [Array.toList_setIfInBounds, List.take_set, hcur, show b * 4 + (2 + r) = 4 * b + 2 + r by omega, bflat_set _ _ _ _ _ _ hb hr (by omega)]
  · rw [List.length_set] at hj
    by_cases e : 2 * b + r = j
    · subst e
      rw [getD_set_eq _ _ _ _ (by omega), getD_set_eq _ _ _ _ hi]
      exact (OwnI.snoc hown).upd hs (fun k hk hm => by simp at hm; exact hv' (hm ▸ hk))
    · rw [getD_set_ne _ _ _ _ _ e, getD_set_ne _ _ _ _ _ e]
      exact ((h.own j hj).upd hu (fun k hk hm => h.apart j (2 * b + r) hj hi (fun e' => e e'.symm) k hk (Option.mem_toList.1 hm))).upd hs (fun k hk hm => by simp at hm; exact hgn j hj (hm ▸ hk))
  · rw [List.length_set] at ha hc
    have hlt : ∀ j, j < xs.length → (vs.getD j undef).ownBlock ≠ some (w.alloc o).heap.size := fun j hj e' => by
      have := ((h.own j hj).lt _ e').2
      simp at this
      omega
    by_cases e : 2 * b + r = a
    · subst e
      rw [getD_set_eq _ _ _ _ (by omega)] at hk
      rw [getD_set_ne _ _ _ _ _ hac]
      rcases hat with e' | e'
      · exact h.apart _ c hi hc hac k (e' ▸ hk)
      · rw [e'] at hk
        injection hk with hk
        exact hk ▸ hlt c hc
    · rw [getD_set_ne _ _ _ _ _ e] at hk
      by_cases e2 : 2 * b + r = c
      · subst e2
        rw [getD_set_eq _ _ _ _ (by omega)]
        rcases hat with e' | e'
        · rw [e']; exact h.apart a _ ha hi hac k hk
        · rw [e']
          intro e3
          injection e3 with e3
          exact hlt a ha (e3 ▸ hk)
      · rw [getD_set_ne _ _ _ _ _ e2]
        exact h.apart a c ha hc hac k hk
  · exact (hu.mono (fun q hq _ => List.mem_cons_of_mem _ hq)).trans (hs.mono (fun q hq _ => by simp at hq; simp [hq]))
  · rcases List.mem_cons.1 hk with rfl | hk
    · exact .inl rfl
    · exact .inr ((h.own _ hi).lt k (Option.mem_toList.1 hk)).1

/-- Put a number into a set, whatever it is. -/
theorem add_any (b g n : Nat) (i : Int) (ws : List Nat) (w : World) (h : SetAt w b g n ws) :
    Calls Tryd.prog 32 #[.pointer (some ⟨b, 0, none⟩), .int .i64 i] w fun e w' => ∃ (r : Bool) (ws' : List Nat), e = .returned (.bool r) ∧ SetAt w' b g n ws' ∧ (∀ p, bhas ws' p = (bhas ws p || (decide (p < n) && decide (i = (p : Int))))) ∧ Upd [g] w w' := by
  by_cases h0 : i < 0 ∨ (n : Int) ≤ i
  · refine (add_out b g n i ws w h h0).mono ?_
    rintro e w' ⟨rfl, rfl⟩
    refine ⟨_, ws, rfl, h, fun p => ?_, Upd.refl _ _⟩
    by_cases hp : p < n
    · rw [decide_eq_false (by omega : ¬ i = (p : Int))]; simp
    · simp [hp]
  · obtain ⟨k, rfl⟩ := Int.eq_ofNat_of_zero_le (show 0 ≤ i by omega)
    have hk : k < n := by omega
    cases hh : bhas ws k
    · refine (add_new b g n k ws w h hk hh).mono ?_
      rintro e w' ⟨rfl, h1, h2⟩
      refine ⟨_, _, rfl, h1, fun p => ?_, h2⟩
      rw [badd_get ws k p (by have := h.2.2.2.1; omega)]
      by_cases e : k = p
      · subst e; simp [hk]
      · rw [decide_eq_false e, decide_eq_false (by omega : ¬ (k : Int) = (p : Int))]; simp
    · refine (add_old b g n k ws w h hk hh).mono ?_
      rintro e w' ⟨rfl, rfl⟩
      refine ⟨_, ws, rfl, h, fun p => ?_, Upd.refl _ _⟩
      by_cases e : k = p
      · subst e; simp [hh]
      · rw [decide_eq_false (by omega : ¬ (k : Int) = (p : Int))]; simp

end Go.Proofs.YtagjchgpcekmnaaDoor
