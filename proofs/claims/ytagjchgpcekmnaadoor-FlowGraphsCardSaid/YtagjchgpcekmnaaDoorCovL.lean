/- Blocks, plain: how they lie, where they go on. -/
import Derived.Test.YtagjchgpcekmnaaDoorOfL
namespace Go.Proofs.YtagjchgpcekmnaaDoor

theorem begL_sorted (xs : List Ins) : (begL xs).Pairwise (· < ·) := List.pairwise_lt_range.filter _
theorem begL_mem (xs : List Ins) (p : Nat) : p ∈ begL xs ↔ p < xs.length ∧ begU xs xs.length p = true := by
  unfold begL
  rw [List.mem_filter, List.mem_range]
theorem begU_iff (xs : List Ins) (m p : Nat) : begU xs m p = true ↔ p < xs.length ∧ (p = 0 ∨ ∃ j, j < m ∧ beg1 (xs.getD j default) j p = true) := by
  unfold begU
  rw [Bool.and_eq_true, decide_eq_true_eq, Bool.or_eq_true, beq_iff_eq, List.any_eq_true]
  constructor
  · rintro ⟨h1, h2 | ⟨j, hj, h3⟩⟩
    · exact ⟨h1, .inl h2⟩
    · exact ⟨h1, .inr ⟨j, List.mem_range.1 hj, h3⟩⟩
  · rintro ⟨h1, h2 | ⟨j, hj, h3⟩⟩
    · exact ⟨h1, .inl h2⟩
    · exact ⟨h1, .inr ⟨j, List.mem_range.2 hj, h3⟩⟩
theorem sorted_lt {l : List Nat} (h : l.Pairwise (· < ·)) (d : Nat) {i j : Nat} (hij : i < j) (hj : j < l.length) : l.getD i d < l.getD j d := by
  rw [List.getD_eq_getElem?_getD, List.getD_eq_getElem?_getD, List.getElem?_eq_getElem hj, List.getElem?_eq_getElem (show i < l.length by omega)]
  exact List.pairwise_iff_getElem.1 h i j (by omega) hj hij
theorem getD_mem {l : List Nat} (d : Nat) {i : Nat} (h : i < l.length) : l.getD i d ∈ l := by
  rw [List.getD_eq_getElem?_getD, List.getElem?_eq_getElem h]
  exact List.getElem_mem h
theorem mem_getD {l : List Nat} (d : Nat) {x : Nat} (h : x ∈ l) : ∃ i, i < l.length ∧ l.getD i d = x := by
  obtain ⟨i, hi, rfl⟩ := List.getElem_of_mem h
  exact ⟨i, hi, by rw [List.getD_eq_getElem?_getD, List.getElem?_eq_getElem hi]; rfl⟩
theorem begL_zero (xs : List Ins) (h : 1 ≤ xs.length) : (begL xs).getD 0 0 = 0 ∧ 0 < (begL xs).length := by
  have h0 : 0 ∈ begL xs := (begL_mem xs 0).2 ⟨h, (begU_iff xs _ 0).2 ⟨h, .inl rfl⟩⟩
  obtain ⟨i, hi, e⟩ := mem_getD 0 h0
  refine ⟨?_, by omega⟩
  by_cases hz : i = 0
  · subst hz; exact e
  · have := sorted_lt (begL_sorted xs) 0 (show 0 < i by omega) hi
    omega
/-- Where block i begins, where it ends. -/
def bfr (xs : List Ins) (i : Nat) : Nat := (begL xs).getD i 0
def bto (xs : List Ins) (i : Nat) : Nat := (begL xs).getD (i + 1) xs.length
theorem bfr_lt (xs : List Ins) (i : Nat) (h : i < (begL xs).length) : bfr xs i < xs.length := ((begL_mem xs _).1 (getD_mem 0 h)).1
theorem bto_eq (xs : List Ins) (i : Nat) (h : i + 1 < (begL xs).length) : bto xs i = bfr xs (i + 1) := by
  unfold bto bfr
  rw [List.getD_eq_getElem?_getD, List.getD_eq_getElem?_getD, List.getElem?_eq_getElem h]
  rfl
theorem bto_last (xs : List Ins) (i : Nat) (h : (begL xs).length ≤ i + 1) : bto xs i = xs.length := by
  unfold bto
  exact getD_over _ _ _ h
theorem bfr_bto (xs : List Ins) (i : Nat) (h : i < (begL xs).length) : bfr xs i < bto xs i ∧ bto xs i ≤ xs.length := by
  by_cases hl : i + 1 < (begL xs).length
  · rw [bto_eq xs i hl]
    exact ⟨sorted_lt (begL_sorted xs) 0 (by omega) hl, Nat.le_of_lt (bfr_lt xs _ hl)⟩
  · rw [bto_last xs i (by omega)]
    exact ⟨bfr_lt xs i h, Nat.le_refl _⟩
theorem beg_gap (xs : List Ins) (i p : Nat) (h : i < (begL xs).length) (h1 : bfr xs i < p) (h2 : p < bto xs i) : p ∉ begL xs := fun hm => by
  obtain ⟨j, hj, e⟩ := mem_getD 0 hm
  have hij : i < j := by
    refine Nat.lt_of_not_le (fun hle => ?_)
    by_cases e2 : j = i
    · subst e2; unfold bfr at h1; omega
    · have := sorted_lt (begL_sorted xs) 0 (show j < i by omega) h
      unfold bfr at h1; omega
  have hl : i + 1 < (begL xs).length := by omega
  rw [bto_eq xs i hl] at h2
  by_cases e2 : j = i + 1
  · subst e2; unfold bfr at h2; omega
  · have := sorted_lt (begL_sorted xs) 0 (show i + 1 < j by omega) hj
    unfold bfr at h2; omega
theorem take_snoc2 (l : List Nat) (m : Nat) (h : m < l.length) : l.take (m + 1) = l.take m ++ [l.getD m 0] := by
  rw [List.take_succ_eq_append_getElem h, List.getD_eq_getElem?_getD, List.getElem?_eq_getElem h]
  rfl
theorem at_self (n : Nat) (pre : List Nat) (hs : pre.Pairwise (· < ·)) (hn : ∀ p ∈ pre, p < n) (k : Nat) (hk : k < pre.length) : (atL n pre).getD (pre.getD k 0) 0 = k := by
  have key : ∀ m, m ≤ pre.length → k < m → (atL n (pre.take m)).getD (pre.getD k 0) 0 = k := by
    intro m
    induction m with
    | zero => intro _ h; omega
    | succ m ih =>
      intro hm hkm
      rw [take_snoc2 pre m hm, atL_snoc]
      have hlen : (pre.take m).length = m := by simp; omega
      rw [hlen]
      by_cases e : k < m
      · have hne : pre.getD m 0 ≠ pre.getD k 0 := by
          have := sorted_lt hs 0 e hm
          omega
        rw [List.getD_eq_getElem?_getD, List.getElem?_set_ne hne, ← List.getD_eq_getElem?_getD]
        exact ih (by omega) e
      · obtain rfl : k = m := by omega
        rw [List.getD_eq_getElem?_getD, List.getElem?_set_self (by rw [atL_len]; exact hn _ (getD_mem 0 hk))]
        rfl
  have := key pre.length (Nat.le_refl _) hk
  rwa [List.take_length] at this
theorem at_beg (xs : List Ins) (k : Nat) (h : k < (begL xs).length) : (atL xs.length (begL xs)).getD (bfr xs k) 0 = k :=
  at_self xs.length (begL xs) (begL_sorted xs) (fun p hp => ((begL_mem xs p).1 hp).1) k h

/-- Only a block's last instruction jumps, or answers. -/
theorem cov_mid (xs : List Ins) (i pc : Nat) (h : i < (begL xs).length) (h1 : bfr xs i ≤ pc) (h2 : pc + 1 < bto xs i) : (xs.getD pc default).op ≠ 22 ∧ (xs.getD pc default).op ≠ 23 ∧ (xs.getD pc default).op ≠ 33 := by
  have hb := bfr_bto xs i h
  have hno := beg_gap xs i (pc + 1) h (by omega) h2
  have hbeg : ∀ b, beg1 (xs.getD pc default) pc (pc + 1) = b → b = false := fun b hb2 => by
    cases b with
    | false => rfl
    | true => exact absurd ((begL_mem xs _).2 ⟨by omega, (begU_iff xs _ _).2 ⟨by omega, .inr ⟨pc, by omega, hb2⟩⟩⟩) hno
  have hf := hbeg _ rfl
  unfold beg1 at hf
  simp at hf
  exact ⟨hf.1.1, hf.1.2, hf.2⟩
/-- Where an instruction jumps to a block begins. -/
theorem cov_jump (xs : List Ins) (pc : Nat) (h : pc < xs.length) (hop : (xs.getD pc default).op = 22 ∨ (xs.getD pc default).op = 23) (a : Nat) (ha : (xs.getD pc default).a = (a : Int)) (hn : a < xs.length) : ∃ k, k < (begL xs).length ∧ bfr xs k = a := by
  have : a ∈ begL xs := (begL_mem xs a).2 ⟨hn, (begU_iff xs _ _).2 ⟨hn, .inr ⟨pc, h, by
    unfold beg1
    generalize xs.getD pc default = x at ha hop ⊢
    rcases hop with e | e <;> simp [e, ha]⟩⟩⟩
  exact mem_getD 0 this

theorem eAdd_even (rows : List (List Int)) (i k q : Nat) (h : 2 * i < rows.length) : (eAdd rows i k).getD (2 * q) [] = if q = i then rows.getD (2 * i) [] ++ [(k : Int)] else rows.getD (2 * q) [] := by
  unfold eAdd
  rw [getD_set_ne _ _ _ _ _ (by omega)]
  by_cases e : q = i
  · subst e
    rw [if_pos rfl, getD_set_eq _ _ _ _ h]
  · rw [if_neg e, getD_set_ne _ _ _ _ _ (by omega)]
def goesL (n : Nat) (at_ : List Nat) (nx : List Int) : List Int := (nx.filter fun pc => decide (pc < (n : Int))).map fun pc => ((at_.getD pc.toNat 0 : Nat) : Int)
theorem eRow_even (n : Nat) (at_ : List Nat) (i q : Nat) : ∀ (nx : List Int) (rows : List (List Int)), 2 * i < rows.length → (eRow n at_ i nx rows).getD (2 * q) [] = if q = i then rows.getD (2 * i) [] ++ goesL n at_ nx else rows.getD (2 * q) [] := by
  intro nx
  induction nx with
  | nil =>
    intro rows _
    unfold eRow goesL
    by_cases e : q = i
    · subst e; simp
    · simp [e]
  | cons a l ih =>
    intro rows h
    have e1 : eRow n at_ i (a :: l) rows = eRow n at_ i l (if a < (n : Int) then eAdd rows i (at_.getD a.toNat 0) else rows) := rfl
    rw [e1]
    by_cases ha : a < (n : Int)
    · rw [if_pos ha, ih _ (by rw [eAdd_len]; exact h)]
      have e2 : goesL n at_ (a :: l) = ((at_.getD a.toNat 0 : Nat) : Int) :: goesL n at_ l := by unfold goesL; simp [ha]
      rw [e2]
      by_cases e : q = i
      · rw [if_pos e, if_pos e, eAdd_even _ _ _ _ h, if_pos rfl, List.append_assoc]; rfl
      · rw [if_neg e, if_neg e, eAdd_even _ _ _ _ h, if_neg e]
    · rw [if_neg ha, ih _ h]
      have e2 : goesL n at_ (a :: l) = goesL n at_ l := by unfold goesL; simp [ha]
      rw [e2]
theorem est_even (xs : List Ins) : ∀ m, m ≤ (begL xs).length → ∀ q, q < (begL xs).length → (est xs m).getD (2 * q) [] = if q < m then goesL xs.length (atL xs.length (begL xs)) (nextL xs ((bto xs q : Nat) - 1)) else [] := by
  intro m
  induction m with
  | zero =>
    intro _ q hq
    rw [est_zero, if_neg (by omega)]
    simp [List.getD_eq_getElem?_getD, List.getElem?_replicate]
    split <;> rfl
  | succ m ih =>
    intro hm q hq
    rw [est_succ, eRow_even _ _ _ _ _ _ (by rw [est_len]; omega), ih (by omega) q hq, ih (by omega) m (by omega), if_neg (Nat.lt_irrefl m), List.nil_append]
    by_cases e : q = m
    · subst e
      rw [if_pos rfl, if_pos (by omega)]
      rfl
    · rw [if_neg e]
      by_cases e2 : q < m
      · rw [if_pos e2, if_pos (by omega)]
      · rw [if_neg e2, if_neg (by omega)]
/-- A jump leads on to its block. -/
theorem cov_succ (xs : List Ins) (i k pc : Nat) (h : i < (begL xs).length) (hk : k < (begL xs).length) (h1 : bfr xs i ≤ pc) (h2 : pc < bto xs i) (hop : (xs.getD pc default).op = 22 ∨ (xs.getD pc default).op = 23) (ha : (xs.getD pc default).a = (bfr xs k : Int)) :
    (k : Int) ∈ (est xs (begL xs).length).getD (2 * i) [] := by
  have hb := bfr_bto xs i h
  have hpc : pc + 1 = bto xs i := by
    refine Nat.le_antisymm h2 (Nat.le_of_not_lt (fun hlt => ?_))
    have := cov_mid xs i pc h h1 hlt
    rcases hop with e | e
    · exact this.1 e
    · exact this.2.1 e
  have e1 : (((bto xs i : Nat) : Int) - 1) = (pc : Int) := by omega
  rw [est_even xs _ (Nat.le_refl _) i h, if_pos h, e1]
  unfold goesL
  rw [List.mem_map]
  refine ⟨(xs.getD pc default).a, ?_, ?_⟩
  · rw [List.mem_filter, decide_eq_true_eq]
    refine ⟨?_, by rw [ha]; have := bfr_lt xs k hk; omega⟩
    unfold nextL
    rw [if_pos (by omega), Int.toNat_natCast]
    rcases hop with e | e
    · rw [if_neg (by rw [e]; decide), if_pos e]; simp
    · rw [if_neg (by rw [e]; decide), if_neg (by rw [e]; decide), if_pos e]
      split
      · rename_i h3; rw [h3]; simp
      · split <;> simp
  · rw [ha, Int.toNat_natCast, at_beg xs k hk]

end Go.Proofs.YtagjchgpcekmnaaDoor
