/- The document's edges, plain. -/
import Derived.Test.YtagjchgpcekmnaaDoorRefL
namespace Go.Proofs.YtagjchgpcekmnaaDoor

/-- A block's last instruction goes on to blocks' beginnings. -/
theorem next_beg (xs : List Ins) (q : Nat) (h : q < (begL xs).length) (ha : ∀ j, j < xs.length → ((xs.getD j default).op = 22 ∨ (xs.getD j default).op = 23) → 0 ≤ (xs.getD j default).a) (x : Int) (hx : x ∈ nextL xs ((bto xs q : Nat) - 1)) (hn : x < (xs.length : Int)) : 0 ≤ x ∧ x.toNat ∈ begL xs := by
  have hb := bfr_bto xs q h
  have hpc : (((bto xs q : Nat) : Int) - 1) = ((bto xs q - 1 : Nat) : Int) := by omega
  rw [hpc] at hx
  have hlt : bto xs q - 1 < xs.length := by omega
  have hto : (bto xs q : Int) < xs.length → bto xs q ∈ begL xs := fun hl => by
    by_cases e : q + 1 < (begL xs).length
    · rw [bto_eq xs q e]; exact getD_mem 0 e
    · rw [bto_last xs q (by omega)] at hl; omega
  have hsame : x = ((bto xs q - 1 : Nat) : Int) + 1 → 0 ≤ x ∧ x.toNat ∈ begL xs := fun e => by
    have e2 : x = (bto xs q : Int) := by omega
    subst e2
    exact ⟨by omega, by rw [Int.toNat_natCast]; exact hto hn⟩
  have hj : ((xs.getD (bto xs q - 1) default).op = 22 ∨ (xs.getD (bto xs q - 1) default).op = 23) → x = (xs.getD (bto xs q - 1) default).a → 0 ≤ x ∧ x.toNat ∈ begL xs := fun hop e => by
    have h0 := ha _ hlt hop
    rw [← e] at h0
    obtain ⟨a, rfl⟩ := Int.eq_ofNat_of_zero_le h0
    obtain ⟨k, hk, ek⟩ := cov_jump xs (bto xs q - 1) hlt hop a e.symm (by omega)
    refine ⟨by omega, ?_⟩
    rw [Int.toNat_natCast, ← ek]
    exact getD_mem 0 hk
  unfold nextL at hx
  rw [if_pos (by omega), Int.toNat_natCast] at hx
  split at hx
  · simp at hx
  · split at hx
    · rename_i e; simp at hx; exact hj (.inl e) hx
    · split at hx
      · rename_i e
        split at hx
        · simp at hx; exact hsame hx
        · split at hx
          · simp at hx
            rcases hx with hx | hx
            · exact hj (.inr e) hx
            · exact hsame hx
          · simp at hx
            rcases hx with hx | hx
            · exact hsame hx
            · exact hj (.inr e) hx
      · simp at hx; exact hsame hx
theorem nextL_sorted (xs : List Ins) (pc : Int) : (nextL xs pc).Pairwise (· < ·) := by
  unfold nextL
  split
  · generalize xs.getD pc.toNat default = x
    split
    · simp
    · split
      · simp
      · split
        · split
          · simp
          · split
            · simp; omega
            · simp; omega
        · simp
  · simp
def gD (xs : List Ins) (nx : List Int) : List Int := (nx.filter fun pc => decide (pc < (xs.length : Int))).map fun pc => ((numB xs pc.toNat : Nat) : Int)
theorem gD_step (xs : List Ins) (nx : List Int) (j : Nat) (h : j < nx.length) : gD xs (nx.take (j + 1)) = if nx.getD j 0 < (xs.length : Int) then gD xs (nx.take j) ++ [((numB xs (nx.getD j 0).toNat : Nat) : Int)] else gD xs (nx.take j) := by
  have e : nx.getD j 0 = nx[j] := by rw [List.getD_eq_getElem?_getD, List.getElem?_eq_getElem h]; rfl
  rw [e, List.take_succ_eq_append_getElem h]
  unfold gD
  rw [List.filter_append, List.map_append]
  by_cases hl : nx[j] < (xs.length : Int)
  · rw [if_pos hl]; simp [hl]
  · rw [if_neg hl]; simp [hl]
theorem gD_len (xs : List Ins) (nx : List Int) : (gD xs nx).length ≤ nx.length := by
  unfold gD
  rw [List.length_map]
  exact List.length_filter_le _ _
/-- Where block q goes on. -/
def gsL (xs : List Ins) (q : Nat) : List Int := goesL xs.length (atL xs.length (begL xs)) (nextL xs ((bto xs q : Nat) - 1))
theorem num_at (xs : List Ins) (p : Nat) (h : p ∈ begL xs) : numB xs p = (atL xs.length (begL xs)).getD p 0 := by
  obtain ⟨k, hk, e⟩ := mem_getD 0 h
  have e2 : bfr xs k = p := e
  rw [← e2, numB_beg xs k hk, at_beg xs k hk]
theorem gD_gs (xs : List Ins) (q : Nat) (h : q < (begL xs).length) (ha : ∀ j, j < xs.length → ((xs.getD j default).op = 22 ∨ (xs.getD j default).op = 23) → 0 ≤ (xs.getD j default).a) : gD xs (nextL xs ((bto xs q : Nat) - 1)) = gsL xs q := by
  unfold gD gsL goesL
  refine List.map_congr_left (fun x hx => ?_)
  rw [List.mem_filter, decide_eq_true_eq] at hx
  rw [num_at xs _ (next_beg xs q h ha x hx.1 hx.2).2]
theorem at_mono (xs : List Ins) (x y : Nat) (hx : x ∈ begL xs) (hy : y ∈ begL xs) (hxy : x < y) : (atL xs.length (begL xs)).getD x 0 < (atL xs.length (begL xs)).getD y 0 := by
  obtain ⟨i, hi, ei⟩ := mem_getD 0 hx
  obtain ⟨j, hj, ej⟩ := mem_getD 0 hy
  have e1 : bfr xs i = x := ei
  have e2 : bfr xs j = y := ej
  rw [← e1, ← e2, at_beg xs i hi, at_beg xs j hj]
  refine Nat.lt_of_not_le (fun hle => ?_)
  by_cases e : j = i
  · subst e; omega
  · have := sorted_lt (begL_sorted xs) 0 (show j < i by omega) hi
    omega
theorem gs_sorted (xs : List Ins) (q : Nat) (h : q < (begL xs).length) (ha : ∀ j, j < xs.length → ((xs.getD j default).op = 22 ∨ (xs.getD j default).op = 23) → 0 ≤ (xs.getD j default).a) : sortL (gsL xs q) = gsL xs q := by
  obtain ⟨h1, h2⟩ := sortL_spec (gsL xs q)
  refine sorted_eq _ _ h1 ?_ h2
  unfold gsL goesL
  rw [List.pairwise_map]
  refine ((nextL_sorted xs _).filter _).imp_of_mem (fun {x y} hx hy hxy => ?_)
  rw [List.mem_filter, decide_eq_true_eq] at hx hy
  have b1 := next_beg xs q h ha x hx.1 hx.2
  have b2 := next_beg xs q h ha y hy.1 hy.2
  have := at_mono xs _ _ b1.2 b2.2 (by omega)
  omega
theorem gs_bd (xs : List Ins) (q : Nat) : (gsL xs q).length ≤ 2 ∧ ∀ x ∈ gsL xs q, 0 ≤ x ∧ (x = 0 ∨ x < ((begL xs).length : Int)) := by
  refine ⟨?_, fun x hx => ?_⟩
  · unfold gsL goesL
    rw [List.length_map]
    exact Nat.le_trans (List.length_filter_le _ _) (nextL_len xs _)
  · unfold gsL goesL at hx
    rw [List.mem_map] at hx
    obtain ⟨p, _, rfl⟩ := hx
    rcases atL_bd xs.length (begL xs) p.toNat with e | e
    · rw [e]; simp
    · refine ⟨by omega, .inr (by omega)⟩

/-- The rows behind i rounds of the document's loop over the blocks. -/
def rowsS (xs : List Ins) (i : Nat) : List (List Int) := (List.range (2 * (begL xs).length)).map fun q => if q % 2 = 0 ∧ q / 2 < i then gsL xs (q / 2) else []
theorem rowsS_len (xs : List Ins) (i : Nat) : (rowsS xs i).length = 2 * (begL xs).length := by simp [rowsS]
theorem rowsS_get (xs : List Ins) (i q : Nat) (h : q < 2 * (begL xs).length) : (rowsS xs i).getD q [] = if q % 2 = 0 ∧ q / 2 < i then gsL xs (q / 2) else [] := by
  simp only [rowsS, List.getD_eq_getElem?_getD, List.getElem?_map]
  rw [List.getElem?_range h]
  rfl
theorem rowsS_zero (xs : List Ins) : rowsS xs 0 = List.replicate (2 * (begL xs).length) [] := by
  unfold rowsS
  apply List.ext_getElem
  · simp
  · intro i h1 h2; simp
theorem rowsS_step (xs : List Ins) (i : Nat) : (rowsS xs i).set (2 * i) (gsL xs i) = rowsS xs (i + 1) := by
  unfold rowsS
  apply List.ext_getElem
  · simp
  · intro k h1 h2
    simp only [List.getElem_set, List.getElem_map, List.getElem_range]
    by_cases e : 2 * i = k
    · rw [if_pos e, if_pos (by omega), show k / 2 = i by omega]
    · rw [if_neg e]
      by_cases e2 : k % 2 = 0 ∧ k / 2 < i
      · rw [if_pos e2, if_pos (by omega)]
      · rw [if_neg e2, if_neg (by omega)]
theorem rowsS_self (xs : List Ins) (i : Nat) : (rowsS xs i).set (2 * i) [] = rowsS xs i := by
  apply List.ext_getElem
  · simp
  · intro k h1 h2
    rw [List.getElem_set]
    by_cases e : 2 * i = k
    · rw [if_pos e]
      have := rowsS_get xs i k (by rw [rowsS_len] at h2; exact h2)
      rw [if_neg (by omega), List.getD_eq_getElem?_getD, List.getElem?_eq_getElem h2] at this
      exact this.symm
    · rw [if_neg e]
/-- Block i is put among those that go on to block b. -/
def oAdd (i : Nat) (r : List (List Int)) (x : Int) : List (List Int) := r.set (2 * x.toNat + 1) (r.getD (2 * x.toNat + 1) [] ++ [(i : Int)])
def oRow (i : Nat) (gs : List Int) (r : List (List Int)) : List (List Int) := gs.foldl (oAdd i) r
def prd (xs : List Ins) (i : Nat) : List (List Int) := (List.range i).foldl (fun r i => oRow i (gsL xs i) r) (rowsS xs (begL xs).length)
theorem prd_succ (xs : List Ins) (i : Nat) : prd xs (i + 1) = oRow i (gsL xs i) (prd xs i) := by
  unfold prd
  rw [List.range_succ, List.foldl_append]
  rfl
theorem oRow_len (i : Nat) (gs : List Int) (r : List (List Int)) : (oRow i gs r).length = r.length := by
  unfold oRow
  induction gs generalizing r with
  | nil => rfl
  | cons a l ih => rw [List.foldl_cons, ih]; simp [oAdd]
theorem oRow_even (i : Nat) (gs : List Int) (r : List (List Int)) (q : Nat) : (oRow i gs r).getD (2 * q) [] = r.getD (2 * q) [] := by
  unfold oRow
  induction gs generalizing r with
  | nil => rfl
  | cons a l ih =>
    rw [List.foldl_cons, ih]
    unfold oAdd
    rw [getD_set_ne _ _ _ _ _ (by omega)]
theorem prd_len (xs : List Ins) (i : Nat) : (prd xs i).length = 2 * (begL xs).length := by
  induction i with
  | zero => exact rowsS_len _ _
  | succ i ih => rw [prd_succ, oRow_len, ih]
theorem prd_even (xs : List Ins) (i q : Nat) (h : q < (begL xs).length) : (prd xs i).getD (2 * q) [] = gsL xs q := by
  induction i with
  | zero =>
    show (rowsS xs (begL xs).length).getD (2 * q) [] = _
    rw [rowsS_get _ _ _ (by omega), if_pos (by omega), show 2 * q / 2 = q by omega]
  | succ i ih => rw [prd_succ, oRow_even, ih]
theorem odd_same (n : Nat) (at_ : List Nat) (i : Nat) (nx : List Int) : ∀ (r1 r2 : List (List Int)), r1.length = r2.length → (∀ b, r1.getD (2 * b + 1) [] = r2.getD (2 * b + 1) []) →
    ∀ b, (eRow n at_ i nx r1).getD (2 * b + 1) [] = (oRow i (goesL n at_ nx) r2).getD (2 * b + 1) [] := by
  induction nx with
  | nil => intro r1 r2 _ h b; exact h b
  | cons a l ih =>
    intro r1 r2 hlen h b
    have e1 : eRow n at_ i (a :: l) r1 = eRow n at_ i l (if a < (n : Int) then eAdd r1 i (at_.getD a.toNat 0) else r1) := rfl
    rw [e1]
    by_cases ha : a < (n : Int)
    · rw [if_pos ha]
      have e2 : goesL n at_ (a :: l) = ((at_.getD a.toNat 0 : Nat) : Int) :: goesL n at_ l := by unfold goesL; simp [ha]
      rw [e2]
      refine ih _ (oAdd i r2 ((at_.getD a.toNat 0 : Nat) : Int)) (by rw [eAdd_len]; simp [oAdd, hlen]) (fun c => ?_) b
      generalize at_.getD a.toNat 0 = k
      unfold eAdd oAdd
      rw [Int.toNat_natCast, getD_set_ne _ (2 * i) (2 * k + 1) _ _ (by omega)]
      by_cases e : 2 * k + 1 = 2 * c + 1
      · have hkc : k = c := by omega
        subst hkc
        by_cases hl : 2 * k + 1 < r1.length
        · rw [getD_set_eq _ _ _ _ (by rw [List.length_set]; exact hl), getD_set_eq _ _ _ _ (by omega), h k]
        · rw [getD_over _ _ _ (by simp; omega), getD_over _ _ _ (by simp; omega)]
      · rw [getD_set_ne _ _ _ _ _ e, getD_set_ne _ _ _ _ _ (by omega), getD_set_ne _ _ _ _ _ e]
        exact h c
    · rw [if_neg ha]
      have e2 : goesL n at_ (a :: l) = goesL n at_ l := by unfold goesL; simp [ha]
      rw [e2]
      exact ih r1 r2 hlen h b
theorem prd_odd (xs : List Ins) : ∀ i, i ≤ (begL xs).length → ∀ b, (est xs i).getD (2 * b + 1) [] = (prd xs i).getD (2 * b + 1) [] := by
  intro i
  induction i with
  | zero =>
    intro _ b
    rw [est_zero]
    show _ = (rowsS xs (begL xs).length).getD (2 * b + 1) []
    by_cases h : 2 * b + 1 < 2 * (begL xs).length
    · rw [rowsS_get _ _ _ h, if_neg (by omega)]
      simp [List.getD_eq_getElem?_getD, h]
    · rw [getD_over _ _ _ (by simp; omega), getD_over _ _ _ (by rw [rowsS_len]; omega)]
  | succ i ih =>
    intro hi b
    rw [est_succ, prd_succ]
    exact odd_same _ _ _ _ _ _ (by rw [est_len, prd_len]) (ih (by omega)) b
/-- The document's rows are the program's. -/
theorem ref_rows (xs : List Ins) (q : Nat) (h : q < (begL xs).length) : (est xs (begL xs).length).getD (2 * q) [] = (prd xs (begL xs).length).getD (2 * q) [] ∧ (est xs (begL xs).length).getD (2 * q + 1) [] = (prd xs (begL xs).length).getD (2 * q + 1) [] := by
  refine ⟨?_, prd_odd xs _ (Nat.le_refl _) q⟩
  rw [prd_even xs _ q h, est_even xs _ (Nat.le_refl _) q h, if_pos h]
  rfl
theorem oRow_rmax (i : Nat) (gs : List Int) : ∀ (r : List (List Int)) (b : Nat), rmax r b → rmax (oRow i gs r) (b + gs.length) := by
  induction gs with
  | nil => intro r b h; exact h
  | cons a l ih =>
    intro r b h
    have h2 : rmax (oAdd i r a) (b + 1) := fun q => by
      unfold oAdd
      by_cases e : 2 * a.toNat + 1 = q
      · subst e
        by_cases hl : 2 * a.toNat + 1 < r.length
        · rw [getD_set_eq _ _ _ _ hl, List.length_append]; exact Nat.succ_le_succ (h _)
        · rw [getD_over _ _ _ (by simpa using hl)]; simp
      · rw [getD_set_ne _ _ _ _ _ e]; have := h q; omega
    have := ih _ _ h2
    exact fun q => by have := this q; simp only [List.length_cons]; unfold oRow at this ⊢; rw [List.foldl_cons]; omega
theorem prd_rmax (xs : List Ins) (i : Nat) : rmax (prd xs i) (2 * i + 2) := by
  induction i with
  | zero =>
    intro q
    show ((rowsS xs (begL xs).length).getD q []).length ≤ _
    by_cases h : q < 2 * (begL xs).length
    · rw [rowsS_get _ _ _ h]
      split
      · have := (gs_bd xs (q / 2)).1; omega
      · simp
    · rw [getD_over _ _ _ (by rw [rowsS_len]; omega)]; simp
  | succ i ih =>
    rw [prd_succ]
    have h1 := oRow_rmax i (gsL xs i) _ _ ih
    have h2 := (gs_bd xs i).1
    exact fun q => by have := h1 q; omega
theorem oRow_take (i : Nat) (gs : List Int) (r : List (List Int)) (k : Nat) (h : k < gs.length) : oRow i (gs.take (k + 1)) r = oAdd i (oRow i (gs.take k) r) (gs.getD k 0) := by
  unfold oRow
  rw [List.take_succ_eq_append_getElem h, List.foldl_append, List.getD_eq_getElem?_getD, List.getElem?_eq_getElem h]
  rfl

end Go.Proofs.YtagjchgpcekmnaaDoor
