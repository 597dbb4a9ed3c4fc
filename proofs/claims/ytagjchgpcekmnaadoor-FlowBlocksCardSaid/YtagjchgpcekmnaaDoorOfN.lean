/- The document's blocks in memory. -/
import Derived.Test.YtagjchgpcekmnaaDoorOfM
namespace Go.Proofs.YtagjchgpcekmnaaDoor
open Go.RowKit

/-- Blocks of one's own, and each one's two rows. -/
structure OwnD (w : World) (G B gb n : Nat) (pre : List Nat) (vs : List Value) (xs : List (List Int)) : Prop where
  blk : ∃ cur : Array Value, w.heap[gb]? = some (.cells cur 42) ∧ cur.toList.take (4 * pre.length) = bflat n pre vs
  ge : G ≤ gb
  gle : G ≤ B
  two : xs.length = 2 * pre.length
  len : vs.length = xs.length
  own : ∀ i, i < xs.length → OwnI w B 3 (vs.getD i undef) (xs.getD i [])
  apart : ∀ i j, i < xs.length → j < xs.length → i ≠ j → ∀ k, (vs.getD i undef).ownBlock = some k → (vs.getD j undef).ownBlock ≠ some k

theorem OwnD.upd {w w' : World} {G B gb n : Nat} {pre : List Nat} {vs : List Value} {xs : List (List Int)} {T : List Nat} (h : OwnD w G B gb n pre vs xs) (hu : Upd T w w') (h1 : gb ∉ T) (h2 : ∀ i, i < xs.length → ∀ k, (vs.getD i undef).ownBlock = some k → k ∉ T) : OwnD w' G B gb n pre vs xs := by
  obtain ⟨cur, h3, h4⟩ := h.blk
  exact ⟨⟨cur, hu.heap h3 h1, h4⟩, h.ge, h.gle, h.two, h.len, fun i hi => (h.own i hi).upd hu (h2 i hi), h.apart⟩
theorem OwnD.low {w w' : World} {G B gb n : Nat} {pre : List Nat} {vs : List Value} {xs : List (List Int)} {T : List Nat} (h : OwnD w G B gb n pre vs xs) (hu : Upd T w w') (hT : ∀ k ∈ T, k < G) : OwnD w' G B gb n pre vs xs :=
  h.upd hu (fun hm => by have := hT _ hm; have := h.ge; omega) (fun i hi k hk hm => by have := ((h.own i hi).lt k hk).1; have := hT _ hm; have := h.gle; omega)

/-- A block's cell. -/
theorem OwnD.cell {w : World} {G B gb n : Nat} {pre : List Nat} {vs : List Value} {xs : List (List Int)} (h : OwnD w G B gb n pre vs xs) (q : Nat) (hq : q < 4 * pre.length) : w.cell? ⟨gb, q, none⟩ = some (bcell n pre vs q) := by
  obtain ⟨cur, h1, h2⟩ := h.blk
  rw [cell_of h1]
  have := take_get h2 hq
  rw [bflat_get _ _ _ _ hq] at this
  simpa using this
theorem OwnD.fr {w : World} {G B gb n : Nat} {pre : List Nat} {vs : List Value} {xs : List (List Int)} (h : OwnD w G B gb n pre vs xs) (i : Nat) (hi : i < pre.length) : w.cell? ⟨gb, i * 4, none⟩ = some (.int .i64 (pre.getD i 0 : Nat)) := by
  rw [h.cell (i * 4) (by omega)]
  unfold bcell
  rw [if_pos (by omega), show i * 4 / 4 = i by omega]
theorem OwnD.to {w : World} {G B gb n : Nat} {pre : List Nat} {vs : List Value} {xs : List (List Int)} (h : OwnD w G B gb n pre vs xs) (i : Nat) (hi : i < pre.length) : w.cell? ⟨gb, i * 4 + 1, none⟩ = some (.int .i64 (pre.getD (i + 1) n : Nat)) := by
  rw [h.cell (i * 4 + 1) (by omega)]
  unfold bcell
  rw [if_neg (by omega), if_pos (by omega), show (i * 4 + 1) / 4 = i by omega]
theorem OwnD.row {w : World} {G B gb n : Nat} {pre : List Nat} {vs : List Value} {xs : List (List Int)} (h : OwnD w G B gb n pre vs xs) (i r : Nat) (hi : i < pre.length) (hr : r < 2) : w.cell? ⟨gb, i * 4 + (2 + r), none⟩ = some (vs.getD (2 * i + r) undef) := by
  rw [h.cell (i * 4 + (2 + r)) (by omega)]
  unfold bcell
  rw [if_neg (by omega), if_neg (by omega), show 2 * ((i * 4 + (2 + r)) / 4) + ((i * 4 + (2 + r)) % 4 - 2) = 2 * i + r by omega]
  have h1 := h.len
  have h2 := h.two
  rw [List.getD_eq_getElem?_getD, List.getD_eq_getElem?_getD, List.getElem?_eq_getElem (by omega)]
  rfl
theorem OwnD.froz {w : World} {G B gb n : Nat} {pre : List Nat} {vs : List Value} {xs : List (List Int)} (h : OwnD w G B gb n pre vs xs) (q : Nat) : w.frozen? ⟨gb, q, none⟩ = false := by
  obtain ⟨cur, h1, _⟩ := h.blk
  exact froz_of h1 q

/-- Blocks without rows. -/
theorem OwnD.start {w : World} {G B gb n : Nat} {pre : List Nat} {cur : Array Value} (hb : w.heap[gb]? = some (.cells cur 42)) (hc : cur.toList.take (4 * pre.length) = bflat n pre []) (h1 : G ≤ gb) (h2 : G ≤ B) :
    OwnD w G B gb n pre (List.replicate (2 * pre.length) (.slice none 0 0)) (List.replicate (2 * pre.length) []) := by
  refine ⟨⟨cur, hb, ?_⟩, h1, h2, by simp, by simp, fun i hi => ?_, fun i j hi hj _ k hk => ?_⟩
  · rw [hc]
    unfold bflat
    refine List.map_congr_left (fun q hq => ?_)
    rw [List.mem_range] at hq
    unfold bcell
    split
    · rfl
    · split
      · rfl
      · simp only [List.getD_eq_getElem?_getD, List.getElem?_replicate]
        split <;> rfl
  · rw [List.length_replicate] at hi
    rw [List.getD_eq_getElem?_getD, List.getD_eq_getElem?_getD, List.getElem?_replicate, List.getElem?_replicate, if_pos hi, if_pos hi]
    exact OwnI.nil _ _ _
  · rw [List.length_replicate] at hi
    rw [List.getD_eq_getElem?_getD, List.getElem?_replicate, if_pos hi] at hk
    simp [Value.ownBlock] at hk

/-- A row is grown by one, and stored back. -/
theorem OwnD.push {w w' : World} {G B gb n : Nat} {pre : List Nat} {vs : List Value} {xs : List (List Int)} {v' : Value} {x : Int} {o : Obj} (h : OwnD w G B gb n pre vs xs) (b r : Nat) (hb : b < pre.length) (hr : r < 2)
    (hown : w'.ownsRow B 3 1 v' ((xs.getD (2 * b + r) []).length + 1) ((xs.getD (2 * b + r) []).map (Value.int .i64) ++ [.int .i64 x]))
    (hgr : (w.alloc o).grownBy w' (vs.getD (2 * b + r) undef).ownBlock) (hat : v'.ownBlock = (vs.getD (2 * b + r) undef).ownBlock ∨ v'.ownBlock = some (w.alloc o).heap.size) :
    w'.frozen? ⟨gb, b * 4 + (2 + r), none⟩ = false ∧ w'.cell? ⟨gb, b * 4 + (2 + r), none⟩ = some (vs.getD (2 * b + r) undef) ∧ OwnD (w'.setCell ⟨gb, b * 4 + (2 + r), none⟩ v') G B gb n pre (vs.set (2 * b + r) v') (xs.set (2 * b + r) (xs.getD (2 * b + r) [] ++ [x])) ∧ Upd (gb :: (vs.getD (2 * b + r) undef).ownBlock.toList) w (w'.setCell ⟨gb, b * 4 + (2 + r), none⟩ v') ∧ (∀ k ∈ gb :: (vs.getD (2 * b + r) undef).ownBlock.toList, k = gb ∨ B ≤ k) := by
  have htwo := h.two
  have hlen := h.len
  have hi : 2 * b + r < xs.length := by omega
  have hcr := h.row b r hb hr
  have hrow : bcell n pre vs (b * 4 + (2 + r)) = bcell n pre vs (4 * b + 2 + r) := by rw [show b * 4 + (2 + r) = 4 * b + 2 + r by omega]
  obtain ⟨cur, hblk, hcur⟩ := h.blk
  have hu : Upd (vs.getD (2 * b + r) undef).ownBlock.toList w w' := ((Upd.refl _ w).alloc o).grown hgr (fun q hq => Or.inl (Option.mem_toList.2 hq))
  have hgn : ∀ j, j < xs.length → (vs.getD j undef).ownBlock ≠ some gb := fun j hj => own_heap_ne (h.own j hj) hblk (by decide)
  have hnm : gb ∉ (vs.getD (2 * b + r) undef).ownBlock.toList := fun hm => hgn _ hi (Option.mem_toList.1 hm)
  have hb' := hu.heap hblk hnm
  have hs : Upd [gb] w' (w'.setCell ⟨gb, b * 4 + (2 + r), none⟩ v') := (Upd.refl _ _).setCell (Or.inl (by simp)) _
  have hv' : v'.ownBlock ≠ some gb := by
    rcases hat with e | e
    · rw [e]; exact hgn _ hi
    · rw [e]
      have := lt_of_heap hblk
      simp
      omega
  refine ⟨froz_of hb' _, hu.cell hcr hnm, ⟨⟨cur.setIfInBounds (b * 4 + (2 + r)) v', heap_setCell hb' _ _, ?_⟩, h.ge, h.gle, by simpa using htwo, by simp [hlen], fun j hj => ?_, fun a c ha hc hac k hk => ?_⟩, ?_, fun k hk => ?_⟩
  · rw [Array.toList_setIfInBounds, List.take_set, hcur, show b * 4 + (2 + r) = 4 * b + 2 + r by omega, bflat_set _ _ _ _ _ _ hb hr (by omega)]
  · rw [List.length_set] at hj
    by_cases e : 2 * b + r = j
    · subst e
      rw [getD_set_eq _ _ _ _ (by omega), getD_set_eq _ _ _ _ hi]
      exact (OwnI.snoc hown).upd hs (fun k hk hm => by simp at hm; exact hv' (hm ▸ hk))
    · rw [getD_set_ne _ _ _ _ _ e, getD_set_ne _ _ _ _ _ e]
      exact ((h.own j hj).upd hu (fun k hk hm => h.apart j (2 * b + r) hj hi (fun e' => e e'.symm) k hk (Option.mem_toList.1 hm))).upd hs (fun k hk hm => by simp at hm; exact hgn j hj (hm ▸ hk))
  · rw [List.length_set] at ha hc
    have hlt : ∀ j, j < xs.length → (vs.getD j undef).ownBlock ≠ some (w.alloc o).heap.size := fun j hj e' => by
      have := ((h.own j hj).lt _ e').2
      simp at this
      omega
    by_cases e : 2 * b + r = a
    · subst e
      rw [getD_set_eq _ _ _ _ (by omega)] at hk
      rw [getD_set_ne _ _ _ _ _ hac]
      rcases hat with e' | e'
      · exact h.apart _ c hi hc hac k (e' ▸ hk)
      · rw [e'] at hk
        injection hk with hk
        exact hk ▸ hlt c hc
    · rw [getD_set_ne _ _ _ _ _ e] at hk
      by_cases e2 : 2 * b + r = c
      · subst e2
        rw [getD_set_eq _ _ _ _ (by omega)]
        rcases hat with e' | e'
        · rw [e']; exact h.apart a _ ha hi hac k hk
        · rw [e']
          intro e3
          injection e3 with e3
          exact hlt a ha (e3 ▸ hk)
      · rw [getD_set_ne _ _ _ _ _ e2]
        exact h.apart a c ha hc hac k hk
  · exact (hu.mono (fun q hq _ => List.mem_cons_of_mem _ hq)).trans (hs.mono (fun q hq _ => by simp at hq; simp [hq]))
  · rcases List.mem_cons.1 hk with rfl | hk
    · exact .inl rfl
    · exact .inr ((h.own _ hi).lt k (Option.mem_toList.1 hk)).1

/-- A row is exchanged for a new one. -/
theorem OwnD.place {w w1 : World} {G B gb n : Nat} {pre : List Nat} {vs : List Value} {xs : List (List Int)} {v' : Value} {ys : List Int} {L : Nat} (h : OwnD w G B gb n pre vs xs) (b r : Nat) (hb : b < pre.length) (hr : r < 2)
    (hu : Upd [] w w1) (hown : OwnI w1 L 3 v' ys) (hL : w.heap.size ≤ L) (hBw : B ≤ w.heap.size) :
    w1.frozen? ⟨gb, b * 4 + (2 + r), none⟩ = false ∧ w1.cell? ⟨gb, b * 4 + (2 + r), none⟩ = some (vs.getD (2 * b + r) undef) ∧ OwnD (w1.setCell ⟨gb, b * 4 + (2 + r), none⟩ v') G B gb n pre (vs.set (2 * b + r) v') (xs.set (2 * b + r) ys) ∧ Upd [gb] w (w1.setCell ⟨gb, b * 4 + (2 + r), none⟩ v') := by
  have htwo := h.two
  have hlen := h.len
  have hi : 2 * b + r < xs.length := by omega
  have hcr := h.row b r hb hr
  have h1 := h.upd hu (by simp) (by simp)
  obtain ⟨cur, hblk, hcur⟩ := h.blk
  have hgn : ∀ j, j < xs.length → (vs.getD j undef).ownBlock ≠ some gb := fun j hj => own_heap_ne (h.own j hj) hblk (by decide)
  have hb' := hu.heap hblk (by simp)
  have hs : Upd [gb] w1 (w1.setCell ⟨gb, b * 4 + (2 + r), none⟩ v') := (Upd.refl _ _).setCell (Or.inl (by simp)) _
  have hgb := lt_of_heap hblk
  have hv' : v'.ownBlock ≠ some gb := fun e => by have := (hown.lt gb e).1; omega
  have hvn : ∀ j, j < xs.length → ∀ k, (vs.getD j undef).ownBlock = some k → v'.ownBlock ≠ some k := fun j hj k hk e => by
    have := ((h.own j hj).lt k hk).2
    have := (hown.lt k e).1
    omega
  refine ⟨froz_of hb' _, hu.cell hcr (by simp), ⟨⟨cur.setIfInBounds (b * 4 + (2 + r)) v', heap_setCell hb' _ _, ?_⟩, h.ge, h.gle, by simpa using htwo, by simp [hlen], fun j hj => ?_, fun a c ha hc hac k hk => ?_⟩, ?_⟩
  · rw [Array.toList_setIfInBounds, List.take_set, hcur, show b * 4 + (2 + r) = 4 * b + 2 + r by omega, bflat_set _ _ _ _ _ _ hb hr (by omega)]
  · rw [List.length_set] at hj
    by_cases e : 2 * b + r = j
    · subst e
      rw [getD_set_eq _ _ _ _ (by omega), getD_set_eq _ _ _ _ hi]
      have hBB : B ≤ L := by omega
      exact (OwnI.upd (row_base hown hBB) hs (fun k hk hm => by simp at hm; exact hv' (hm ▸ hk)))
    · rw [getD_set_ne _ _ _ _ _ e, getD_set_ne _ _ _ _ _ e]
      exact (h1.own j hj).upd hs (fun k hk hm => by simp at hm; exact hgn j hj (hm ▸ hk))
  · rw [List.length_set] at ha hc
    by_cases e : 2 * b + r = a
    · subst e
      rw [getD_set_eq _ _ _ _ (by omega)] at hk
      rw [getD_set_ne _ _ _ _ _ hac]
      exact fun e' => hvn c hc k e' hk
    · rw [getD_set_ne _ _ _ _ _ e] at hk
      by_cases e2 : 2 * b + r = c
      · subst e2
        rw [getD_set_eq _ _ _ _ (by omega)]
        exact hvn a ha k hk
      · rw [getD_set_ne _ _ _ _ _ e2]
        exact h.apart a c ha hc hac k hk
  · exact (hu.mono (fun q hq _ => by simp at hq)).trans hs

theorem rowD_push {w w' : World} {G B gb n : Nat} {pre : List Nat} {vs : List Value} {xs : List (List Int)} {v0 v' : Value} {x : Int} {o : Obj} (h : OwnD w G B gb n pre vs xs) {b r : Nat} (hv : vs.getD (2 * b + r) undef = v0) (hb : b < pre.length) (hr : r < 2)
    (hown : w'.ownsRow B 3 1 v' ((xs.getD (2 * b + r) []).length + 1) ((xs.getD (2 * b + r) []).map (Value.int .i64) ++ [.int .i64 x]))
    (hgr : (w.drew.alloc o).grownBy w' v0.ownBlock) (hat : v'.ownBlock = v0.ownBlock ∨ v'.ownBlock = some (w.drew.alloc o).heap.size) :
    w'.frozen? ⟨gb, b * 4 + (2 + r), none⟩ = false ∧ w'.cell? ⟨gb, b * 4 + (2 + r), none⟩ = some v0 ∧ OwnD (w'.setCell ⟨gb, b * 4 + (2 + r), none⟩ v') G B gb n pre (vs.set (2 * b + r) v') (xs.set (2 * b + r) (xs.getD (2 * b + r) [] ++ [x])) ∧ Upd (gb :: v0.ownBlock.toList) w (w'.setCell ⟨gb, b * 4 + (2 + r), none⟩ v') ∧ (∀ k ∈ gb :: v0.ownBlock.toList, k = gb ∨ B ≤ k) ∧ (∀ k, v'.ownBlock = some k → v0.ownBlock = some k ∨ w.heap.size < k) := by
  subst hv
  have hd := (Upd.refl [] w).drew
  obtain ⟨h1, h2, h3, h4, h5⟩ := (h.upd hd (by simp) (by simp)).push b r hb hr hown hgr hat
  refine ⟨h1, h2, h3, ((Upd.refl _ w).drew).trans' h4 (fun k hk _ => hk), h5, fun k hk => ?_⟩
  rcases hat with e | e
  · exact .inl (e ▸ hk)
  · rw [e] at hk
    injection hk with hk
    subst hk
    exact .inr (by simp)
theorem rowD_done {W w w' : World} {G B gb n L : Nat} {pre : List Nat} {vs : List Value} {xs : List (List Int)} {v0 v' row : Value} {x : Int} {nx : List Int} (h : OwnD w G B gb n pre vs xs) {b r : Nat} (hv : vs.getD (2 * b + r) undef = v0) (hb : b < pre.length) (hr : r < 2)
    (hp : OwnD w' G B gb n pre (vs.set (2 * b + r) v') (xs.set (2 * b + r) (xs.getD (2 * b + r) [] ++ [x]))) (hu : Upd (gb :: v0.ownBlock.toList) w w') (hs : ∀ k ∈ gb :: v0.ownBlock.toList, k = gb ∨ B ≤ k) (hn : ∀ k, v'.ownBlock = some k → v0.ownBlock = some k ∨ w.heap.size < k)
    (hB : B = W.heap.size) (HU : Upd [gb] W w) (HUN : OwnI w L 3 row nx) (HAP : ∀ q, q < 2 * pre.length → ∀ k, (vs.getD q undef).ownBlock = some k → row.ownBlock ≠ some k) :
    ∃ vs2 : List Value, Hid (OwnD w' G B gb n pre vs2 (xs.set (2 * b + r) (xs.getD (2 * b + r) [] ++ [x]))) ∧ Hid (Upd [gb] W w') ∧ Hid (OwnI w' L 3 row nx) ∧ Hid (∀ q, q < 2 * pre.length → ∀ k, (vs2.getD q undef).ownBlock = some k → row.ownBlock ≠ some k) := by
  subst hv
  have htwo := h.two
  have hlen := h.len
  obtain ⟨cur, hblk, _⟩ := h.blk
  refine ⟨_, hp, HU.trans' hu (fun k hk hlt => ?_), HUN.upd hu (fun k hk hm => ?_), fun q hq k hk hk' => ?_⟩
  · rcases hs k hk with e | e
    · simp [e]
    · omega
  · rcases List.mem_cons.1 hm with rfl | hm
    · exact own_heap_ne HUN hblk (by decide) hk
    · exact HAP (2 * b + r) (by omega) k (Option.mem_toList.1 hm) hk
  · by_cases e : 2 * b + r = q
    · subst e
      rw [getD_set_eq _ _ _ _ (by omega)] at hk
      rcases hn k hk with e | e
      · exact HAP _ hq k e hk'
      · have := (HUN.lt k hk').2
        omega
    · rw [getD_set_ne _ _ _ _ _ e] at hk
      exact HAP q hq k hk hk'
theorem rowD_keep {w w' : World} {G B gb n : Nat} {pre : List Nat} {vs : List Value} {xs : List (List Int)} {v0 : Value} {o : Obj} (h : OwnD w G B gb n pre vs xs) {b r : Nat} (hv : vs.getD (2 * b + r) undef = v0) (hb : b < pre.length) (hr : r < 2)
    (hgr : (w.drew.alloc o).grownBy w' v0.ownBlock) {p : Addr} {u : Value} (hp : w.cell? p = some u) (hlt : p.block < B) : w'.cell? p = some u ∧ True := by
  subst hv
  have hu : Upd (vs.getD (2 * b + r) undef).ownBlock.toList w w' := (((Upd.refl _ w).drew).alloc o).grown hgr (fun q hq => Or.inl (Option.mem_toList.2 hq))
  refine ⟨hu.cell hp (fun hm => ?_), trivial⟩
  have := ((h.own (2 * b + r) (by rw [h.two]; omega)).lt _ (Option.mem_toList.1 hm)).1
  omega

end Go.Proofs.YtagjchgpcekmnaaDoor
