/- A method's blocks: what flow.Of reckons, plain. -/
import Derived.Test.YtagjchgpcekmnaaDoorNext
import Derived.Test.YtagjchgpcekmnaaDoorEach1
import Derived.Test.YtagjchgpcekmnaaDoorLists
namespace Go.Proofs.YtagjchgpcekmnaaDoor
open Go.RowKit

/-- Does an instruction at j begin a block at p? -/
def beg1 (x : Ins) (j p : Nat) : Bool := ((x.op == 22 || x.op == 23) && (decide (x.a = (p : Int)) || decide (j + 1 = p))) || (x.op == 33 && decide (j + 1 = p))
/-- Does one of the first i instructions, or the method itself, begin a block at p? -/
def begU (xs : List Ins) (i p : Nat) : Bool := decide (p < xs.length) && (p == 0 || (List.range i).any fun j => beg1 (xs.getD j default) j p)
theorem begU_zero (xs : List Ins) (p : Nat) : begU xs 0 p = (decide (p < xs.length) && decide ((0 : Int) = p)) := by
  unfold begU
  simp only [List.range_zero, List.any_nil, Bool.or_false]
  rw [show (p == 0) = decide ((0 : Int) = (p : Int)) by rw [Bool.eq_iff_iff]; simp; omega]
theorem begU_succ (xs : List Ins) (i p : Nat) : begU xs (i + 1) p = (begU xs i p || (decide (p < xs.length) && beg1 (xs.getD i default) i p)) := by
  unfold begU
  rw [List.range_succ, List.any_append]
  simp only [List.any_cons, List.any_nil, Bool.or_false]
  cases decide (p < xs.length) <;> simp [Bool.or_assoc]

/-- Where the blocks begin. -/
def begL (xs : List Ins) : List Nat := (List.range xs.length).filter (begU xs xs.length)

theorem blist_eq (ws : List Nat) (n : Nat) (f : Nat → Bool) (h : ∀ p, bhas ws p = f p) (hf : ∀ p, f p = true → p < n) (hw : ws.length = (n + 63) / 64) : blist ws = (List.range n).filter f := by
  have e : bhas ws = f := funext h
  have : blist ws = bupto ws n := by
    unfold blist
    obtain ⟨d, hd⟩ : ∃ d, 64 * ws.length = n + d := ⟨64 * ws.length - n, by omega⟩
    rw [hd]
    refine bupto_skip ws n d (fun j h1 _ => ?_)
    rw [h j]
    cases hc : f j
    · rfl
    · have := hf j hc; omega
  rw [this]
  unfold bupto
  rw [e]

/-- Which block begins where. -/
def atL (n : Nat) (pre : List Nat) : List Nat := (pre.foldl (fun (s : List Nat × Nat) x => (s.1.set x s.2, s.2 + 1)) (List.replicate n 0, 0)).1
theorem atL_aux (n : Nat) (pre : List Nat) : (pre.foldl (fun (s : List Nat × Nat) x => (s.1.set x s.2, s.2 + 1)) (List.replicate n 0, 0)).2 = pre.length := by
  suffices h : ∀ (s : List Nat × Nat), (pre.foldl (fun (s : List Nat × Nat) x => (s.1.set x s.2, s.2 + 1)) s).2 = s.2 + pre.length by simpa using h (List.replicate n 0, 0)
  induction pre with
  | nil => simp
  | cons a l ih => intro s; rw [List.foldl_cons, ih]; simp; omega
theorem atL_nil (n : Nat) : atL n [] = List.replicate n 0 := rfl
theorem atL_snoc (n : Nat) (pre : List Nat) (x : Nat) : atL n (pre ++ [x]) = (atL n pre).set x pre.length := by
  unfold atL
  rw [List.foldl_append]
  simp only [List.foldl_cons, List.foldl_nil]
  rw [atL_aux]
theorem atL_len (n : Nat) (pre : List Nat) : (atL n pre).length = n := by
  unfold atL
  suffices h : ∀ (s : List Nat × Nat), (pre.foldl (fun (s : List Nat × Nat) x => (s.1.set x s.2, s.2 + 1)) s).1.length = s.1.length by simpa using h (List.replicate n 0, 0)
  induction pre with
  | nil => simp
  | cons a l ih => intro s; rw [List.foldl_cons, ih]; simp
theorem atL_bd (n : Nat) (pre : List Nat) (q : Nat) : (atL n pre).getD q 0 = 0 ∨ (atL n pre).getD q 0 < pre.length := by
  unfold atL
  suffices h : ∀ (s : List Nat × Nat), (∀ q, s.1.getD q 0 = 0 ∨ s.1.getD q 0 < s.2) → (∀ q, (pre.foldl (fun (s : List Nat × Nat) x => (s.1.set x s.2, s.2 + 1)) s).1.getD q 0 = 0 ∨ (pre.foldl (fun (s : List Nat × Nat) x => (s.1.set x s.2, s.2 + 1)) s).1.getD q 0 < s.2 + pre.length) by
    have := h (List.replicate n 0, 0) (fun q => .inl (by simp only [List.getD_eq_getElem?_getD, List.getElem?_replicate]; split <;> rfl)) q
    simpa using this
  induction pre with
  | nil => intro s hs q; simpa using hs q
  | cons a l ih =>
    intro s hs q
    rw [List.foldl_cons]
    have := ih (s.1.set a s.2, s.2 + 1) (fun q => by
      by_cases e : a = q
      · subst e
        by_cases hl : a < s.1.length
        · rw [getD_set_eq _ _ _ _ hl]; right; simp
        · left; rw [List.getD_eq_getElem?_getD, List.getElem?_eq_none (by simpa using hl)]; rfl
      · rw [getD_set_ne _ _ _ _ _ e]
        rcases hs q with h | h
        · exact .inl h
        · exact .inr (Nat.lt_succ_of_lt h)) q
    rw [List.length_cons]
    rcases this with h | h
    · exact .inl h
    · exact .inr (Nat.lt_of_lt_of_le h (by show s.2 + 1 + l.length ≤ s.2 + (l.length + 1); omega))

/-- The cells of blocks: four each. -/
def bcell (n : Nat) (pre : List Nat) (vs : List Value) (q : Nat) : Value :=
  if q % 4 = 0 then .int .i64 (pre.getD (q / 4) 0 : Nat) else if q % 4 = 1 then .int .i64 (pre.getD (q / 4 + 1) n : Nat) else vs.getD (2 * (q / 4) + (q % 4 - 2)) (.slice none 0 0)
def bflat (n : Nat) (pre : List Nat) (vs : List Value) : List Value := (List.range (4 * pre.length)).map (bcell n pre vs)
theorem bflat_len (n : Nat) (pre : List Nat) (vs : List Value) : (bflat n pre vs).length = 4 * pre.length := by simp [bflat]
theorem bflat_get (n : Nat) (pre : List Nat) (vs : List Value) (q : Nat) (h : q < 4 * pre.length) : (bflat n pre vs)[q]? = some (bcell n pre vs q) := by
  simp [bflat, h]
theorem bflat_nil (n : Nat) (vs : List Value) : bflat n [] vs = [] := rfl

theorem getD_snoc_lt {α : Type} (l : List α) (x d : α) (i : Nat) (h : i < l.length) : (l ++ [x]).getD i d = l.getD i d := by
  rw [List.getD_eq_getElem?_getD, List.getD_eq_getElem?_getD, List.getElem?_append_left h]
theorem getD_snoc_eq {α : Type} (l : List α) (x d : α) : (l ++ [x]).getD l.length d = x := by
  simp [List.getD_eq_getElem?_getD]
theorem getD_over {α : Type} (l : List α) (d : α) (i : Nat) (h : l.length ≤ i) : l.getD i d = d := by
  rw [List.getD_eq_getElem?_getD, List.getElem?_eq_none h]; rfl

/-- A block more: the one ahead of it ends there. -/
theorem bflat_snoc (n : Nat) (pre : List Nat) (x : Nat) (h : 0 < pre.length) :
    (bflat n pre []).set (4 * (pre.length - 1) + 1) (.int .i64 (x : Nat)) ++ [.int .i64 (x : Nat), .int .i64 (n : Nat), .slice none 0 0, .slice none 0 0] = bflat n (pre ++ [x]) [] := by
  apply List.ext_getElem?
  intro q
  rcases Nat.lt_or_ge q (4 * pre.length) with hq | hq
  · rw [List.getElem?_append_left (by rw [List.length_set, bflat_len]; exact hq), bflat_get _ _ _ _ (by simp; omega), List.getElem?_set]
    by_cases e : 4 * (pre.length - 1) + 1 = q
    · rw [if_pos e, if_pos (by rw [bflat_len]; omega)]
      unfold bcell
      rw [if_neg (by omega), if_pos (by omega), show q / 4 + 1 = pre.length by omega, getD_snoc_eq]
    · rw [if_neg e, bflat_get _ _ _ _ hq]
      unfold bcell
      by_cases e0 : q % 4 = 0
      · rw [if_pos e0, if_pos e0, getD_snoc_lt _ _ _ _ (by omega)]
      · by_cases e1 : q % 4 = 1
        · rw [if_neg e0, if_pos e1, if_neg e0, if_pos e1, List.getD_eq_getElem?_getD, List.getD_eq_getElem?_getD, List.getElem?_append_left (by omega), List.getElem?_eq_getElem (by omega)]
        · rw [if_neg e0, if_neg e1, if_neg e0, if_neg e1]
  · rw [List.getElem?_append_right (by rw [List.length_set, bflat_len]; exact hq), List.length_set, bflat_len]
    rcases Nat.lt_or_ge q (4 * pre.length + 4) with h4 | h4
    · rw [bflat_get _ _ _ _ (by simp; omega)]
      unfold bcell
      obtain ⟨r, rfl⟩ : ∃ r, q = 4 * pre.length + r := ⟨q - 4 * pre.length, by omega⟩
      have hr : r < 4 := by omega
      have e4 : (4 * pre.length + r) / 4 = pre.length := by omega
      have e5 : (4 * pre.length + r) % 4 = r := by omega
      rw [e4, e5, show 4 * pre.length + r - 4 * pre.length = r by omega, getD_snoc_eq, getD_over (pre ++ [x]) n _ (by simp)]
      match r, hr with
      | 0, _ => rfl
      | 1, _ => rfl
      | 2, _ => rfl
      | 3, _ => rfl
    · rw [List.getElem?_eq_none (by simp; omega), List.getElem?_eq_none (by rw [bflat_len]; simp; omega)]
theorem bflat_one (n x : Nat) : [Value.int .i64 (x : Nat), .int .i64 (n : Nat), .slice none 0 0, .slice none 0 0] = bflat n [x] [] := rfl

/-- A block's row is stored. -/
theorem bflat_set (n : Nat) (pre : List Nat) (vs : List Value) (k r : Nat) (v : Value) (hk : k < pre.length) (hr : r < 2) (hv : vs.length = 2 * pre.length) :
    (bflat n pre vs).set (4 * k + 2 + r) v = bflat n pre (vs.set (2 * k + r) v) := by
  apply List.ext_getElem?
  intro q
  rw [List.getElem?_set]
  rcases Nat.lt_or_ge q (4 * pre.length) with hq | hq
  · rw [bflat_get _ _ _ _ hq, bflat_get _ _ _ _ hq]
    by_cases e : 4 * k + 2 + r = q
    · rw [if_pos e, if_pos (by rw [bflat_len]; omega)]
      unfold bcell
      rw [if_neg (by omega), if_neg (by omega), show 2 * (q / 4) + (q % 4 - 2) = 2 * k + r by omega, getD_set_eq _ _ _ _ (by omega)]
    · rw [if_neg e]
      unfold bcell
      by_cases e0 : q % 4 = 0
      · rw [if_pos e0, if_pos e0]
      · by_cases e1 : q % 4 = 1
        · rw [if_neg e0, if_neg e0, if_pos e1, if_pos e1]
        · rw [if_neg e0, if_neg e0, if_neg e1, if_neg e1, getD_set_ne _ _ _ _ _ (by omega)]
  · rw [if_neg (by omega), List.getElem?_eq_none (by rw [bflat_len]; exact hq), List.getElem?_eq_none (by rw [bflat_len]; exact hq)]

/-- An edge between blocks is put in: on at the one, back at the other. -/
def eAdd (rows : List (List Int)) (i k : Nat) : List (List Int) := (rows.set (2 * i) (rows.getD (2 * i) [] ++ [(k : Int)])).set (2 * k + 1) ((rows.set (2 * i) (rows.getD (2 * i) [] ++ [(k : Int)])).getD (2 * k + 1) [] ++ [(i : Int)])
theorem eAdd_len (rows : List (List Int)) (i k : Nat) : (eAdd rows i k).length = rows.length := by simp [eAdd]

/-- Where a block's last instruction goes on, the first j of the places: the rows. -/
def eRow (n : Nat) (at_ : List Nat) (i : Nat) (nx : List Int) (rows : List (List Int)) : List (List Int) := nx.foldl (fun r (pc : Int) => if pc < (n : Int) then eAdd r i (at_.getD pc.toNat 0) else r) rows
theorem eRow_len (n : Nat) (at_ : List Nat) (i : Nat) (nx : List Int) (rows : List (List Int)) : (eRow n at_ i nx rows).length = rows.length := by
  unfold eRow
  induction nx generalizing rows with
  | nil => rfl
  | cons a l ih =>
    rw [List.foldl_cons, ih]
    split
    · exact eAdd_len _ _ _
    · rfl
theorem eRow_step (n : Nat) (at_ : List Nat) (i : Nat) (nx : List Int) (rows : List (List Int)) (j : Nat) (hj : j < nx.length) : eRow n at_ i (nx.take (j + 1)) rows = if nx.getD j 0 < (n : Int) then eAdd (eRow n at_ i (nx.take j) rows) i (at_.getD (nx.getD j 0).toNat 0) else eRow n at_ i (nx.take j) rows := by
  unfold eRow
  rw [List.take_succ_eq_append_getElem hj, List.foldl_append]
  simp only [List.foldl_cons, List.foldl_nil]
  have e : nx.getD j 0 = nx[j] := by rw [List.getD_eq_getElem?_getD, List.getElem?_eq_getElem hj]; rfl
  rw [e]
/-- The rows behind the first i blocks. -/
def est (xs : List Ins) (i : Nat) : List (List Int) := (List.range i).foldl (fun r i => eRow xs.length (atL xs.length (begL xs)) i (nextL xs (((begL xs).getD (i + 1) xs.length : Nat) - 1)) r) (List.replicate (2 * (begL xs).length) [])
theorem est_zero (xs : List Ins) : est xs 0 = List.replicate (2 * (begL xs).length) [] := rfl
theorem est_succ (xs : List Ins) (i : Nat) : est xs (i + 1) = eRow xs.length (atL xs.length (begL xs)) i (nextL xs (((begL xs).getD (i + 1) xs.length : Nat) - 1)) (est xs i) := by
  unfold est
  rw [List.range_succ, List.foldl_append]
  rfl

/-- How long rows grow. -/
def rmax (rows : List (List Int)) (b : Nat) : Prop := ∀ q, (rows.getD q []).length ≤ b
theorem rmax_eAdd {rows : List (List Int)} {b : Nat} (h : rmax rows b) (i k : Nat) : rmax (eAdd rows i k) (b + 1) := fun q => by
  unfold eAdd
  have h1 : ∀ q, ((rows.set (2 * i) (rows.getD (2 * i) [] ++ [(k : Int)])).getD q []).length ≤ b + (if 2 * i = q then 1 else 0) := fun q => by
    by_cases e : 2 * i = q
    · rw [if_pos e]
      subst e
      by_cases hl : 2 * i < rows.length
      · rw [getD_set_eq _ _ _ _ hl, List.length_append]; have := h (2 * i); exact Nat.succ_le_succ this
      · rw [getD_over _ _ _ (by simpa using hl)]; simp
    · rw [getD_set_ne _ _ _ _ _ e, if_neg e]; exact h q
  by_cases e : 2 * k + 1 = q
  · subst e
    have h2 := h1 (2 * k + 1)
    rw [if_neg (by omega)] at h2
    generalize rows.set (2 * i) (rows.getD (2 * i) [] ++ [(k : Int)]) = r2 at h2 ⊢
    by_cases hl : 2 * k + 1 < r2.length
    · rw [getD_set_eq _ _ _ _ hl, List.length_append]; exact Nat.succ_le_succ h2
    · rw [getD_over _ _ _ (by simpa using hl)]; simp
  · rw [getD_set_ne _ _ _ _ _ e]
    have := h1 q
    split at this <;> omega
theorem rmax_eRow {rows : List (List Int)} {b : Nat} (h : rmax rows b) (n : Nat) (at_ : List Nat) (i : Nat) (nx : List Int) : rmax (eRow n at_ i nx rows) (b + nx.length) := by
  unfold eRow
  induction nx generalizing rows b with
  | nil => exact h
  | cons a l ih =>
    rw [List.foldl_cons, List.length_cons]
    have h2 : rmax (if a < (n : Int) then eAdd rows i (at_.getD a.toNat 0) else rows) (b + 1) := by
      split
      · exact rmax_eAdd h _ _
      · exact fun q => by have := h q; omega
    have := ih h2
    exact fun q => by have := this q; omega
theorem nextL_len (xs : List Ins) (pc : Int) : (nextL xs pc).length ≤ 2 := by
  unfold nextL
  split
  · split
    · simp
    · split
      · simp
      · split
        · split
          · simp
          · split <;> simp
        · simp
  · simp
theorem rmax_est (xs : List Ins) (i : Nat) : rmax (est xs i) (2 * i) := by
  induction i with
  | zero =>
    intro q
    rw [est_zero]
    simp only [List.getD_eq_getElem?_getD, List.getElem?_replicate]
    split <;> simp
  | succ i ih =>
    rw [est_succ]
    have := rmax_eRow ih xs.length (atL xs.length (begL xs)) i (nextL xs (((begL xs).getD (i + 1) xs.length : Nat) - 1))
    have h2 := nextL_len xs (((begL xs).getD (i + 1) xs.length : Nat) - 1)
    exact fun q => by have := this q; omega
theorem est_len (xs : List Ins) (i : Nat) : (est xs i).length = 2 * (begL xs).length := by
  induction i with
  | zero => rw [est_zero]; simp
  | succ i ih => rw [est_succ, eRow_len, ih]
theorem nextL_nonneg (xs : List Ins) (pc : Int) (h : ∀ j, j < xs.length → ((xs.getD j default).op = 22 ∨ (xs.getD j default).op = 23) → 0 ≤ (xs.getD j default).a) : ∀ x ∈ nextL xs pc, 0 ≤ x := by
  unfold nextL
  split
  · rename_i hp
    have := h pc.toNat (by omega)
    generalize xs.getD pc.toNat default = y at this ⊢
    split
    · simp
    · split
      · rename_i e; intro x hx; simp at hx; subst hx; exact this (.inl e)
      · split
        · rename_i e
          have h3 := this (.inr e)
          split
          · intro x hx; simp at hx; omega
          · split <;> (intro x hx; simp at hx; omega)
        · intro x hx; simp at hx; omega
  · simp

end Go.Proofs.YtagjchgpcekmnaaDoor
