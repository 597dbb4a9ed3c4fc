/- Graphs cleaned, and turned round, in plain Lean. No program in sight. -/
import Derived.Test.YtjjkliifpdcliaaDoorDfs2
namespace Go.Proofs.YtjjkliifpdcliaaDoor

def cstep (n : Nat) (acc : List Nat) (k : Int) : List Nat := if 0 ≤ k ∧ k < (n : Int) ∧ k.toNat ∉ acc then acc ++ [k.toNat] else acc
/-- A row's places that are, each once. -/
def crow (n : Nat) (l : List Int) : List Nat := l.foldl (cstep n) []
def cleanG (g : List (List Int)) : List (List Nat) := g.map (crow g.length)

theorem crow_take (n : Nat) (l : List Int) (j : Nat) (h : j < l.length) : crow n (l.take (j + 1)) = cstep n (crow n (l.take j)) (l.getD j 0) := by
  unfold crow
  rw [List.take_succ_eq_append_getElem h, List.foldl_append, List.getD_eq_getElem?_getD, List.getElem?_eq_getElem h]; rfl

theorem crow_spec (n : Nat) (l : List Int) : (crow n l).Nodup ∧ ∀ k, k ∈ crow n l ↔ k < n ∧ (k : Int) ∈ l := by
  have key : ∀ (l : List Int) (acc : List Nat), acc.Nodup → (l.foldl (cstep n) acc).Nodup ∧ ∀ k, k ∈ l.foldl (cstep n) acc ↔ k ∈ acc ∨ (k < n ∧ (k : Int) ∈ l) := by
    intro l
    induction l with
    | nil => intro acc h; exact ⟨h, fun k => by simp⟩
    | cons a t ih =>
      intro acc h
      have hn : (cstep n acc a).Nodup := by
        unfold cstep
        split
        · rename_i hc
          rw [List.nodup_append]
          refine ⟨h, by simp, fun x hx y hy e => ?_⟩
          simp at hy
          subst hy
          subst e
          exact hc.2.2 hx
        · exact h
      obtain ⟨h1, h2⟩ := ih (cstep n acc a) hn
      refine ⟨h1, fun k => ?_⟩
      rw [List.foldl_cons, h2]
      have hm : k ∈ cstep n acc a ↔ k ∈ acc ∨ (k < n ∧ (k : Int) = a) := by
        unfold cstep
        split
        · rename_i hc
          simp only [List.mem_append, List.mem_singleton]
          constructor
          · rintro (h3 | h3)
            · exact .inl h3
            · exact .inr ⟨by omega, by omega⟩
          · rintro (h3 | h3)
            · exact .inl h3
            · exact .inr (by omega)
        · rename_i hc
          constructor
          · exact .inl
          · rintro (h3 | h3)
            · exact h3
            · refine Decidable.byContradiction fun h4 => hc ⟨by omega, by omega, ?_⟩
              rw [← h3.2]
              simpa using h4
      rw [hm]
      simp only [List.mem_cons]
      constructor
      · rintro ((h3 | h3) | h3)
        · exact .inl h3
        · exact .inr ⟨h3.1, .inl h3.2⟩
        · exact .inr ⟨h3.1, .inr h3.2⟩
      · rintro (h3 | ⟨h3, h4 | h4⟩)
        · exact .inl (.inl h3)
        · exact .inl (.inr ⟨h3, h4⟩)
        · exact .inr ⟨h3, h4⟩
  obtain ⟨h1, h2⟩ := key l [] List.nodup_nil
  exact ⟨h1, fun k => by rw [crow, h2]; simp⟩

theorem cleanG_len (g : List (List Int)) : (cleanG g).length = g.length := by simp [cleanG]
theorem cleanG_get (g : List (List Int)) (i : Nat) (h : i < g.length) : (cleanG g).getD i [] = crow g.length (g.getD i []) := by
  unfold cleanG
  rw [List.getD_eq_getElem?_getD, List.getElem?_map, List.getElem?_eq_getElem h, List.getD_eq_getElem?_getD, List.getElem?_eq_getElem h]; rfl
theorem cleanG_clean (g : List (List Int)) : Clean (cleanG g) := by
  intro i hi
  rw [cleanG_len] at hi
  rw [cleanG_get g i hi, cleanG_len]
  obtain ⟨h1, h2⟩ := crow_spec g.length (g.getD i [])
  exact ⟨h1, fun k hk => ((h2 k).1 hk).1⟩
theorem crow_len (n : Nat) (l : List Int) : (crow n l).length ≤ n ∧ (crow n l).length ≤ l.length := by
  obtain ⟨h1, h2⟩ := crow_spec n l
  refine ⟨len_leN n _ h1 (fun r hr => ((h2 r).1 hr).1), ?_⟩
  have key : ∀ (l : List Int) (acc : List Nat), (l.foldl (cstep n) acc).length ≤ acc.length + l.length := by
    intro l
    induction l with
    | nil => intro acc; simp
    | cons a t ih =>
      intro acc
      have h3 := ih (cstep n acc a)
      have h4 : (cstep n acc a).length ≤ acc.length + 1 := by
        unfold cstep
        split
        · simp
        · omega
      rw [List.foldl_cons, List.length_cons]
      omega
  have := key l []
  simpa [crow] using this

/-- For each place those that go on there, rising. -/
def predsL (c : List (List Nat)) : List (List Nat) := (List.range c.length).map fun k => (List.range c.length).filter fun i => decide (k ∈ c.getD i [])
/-- .. in the midst: rows below i are done, and j places of row i. -/
def pst (c : List (List Nat)) (i j : Nat) : List (List Nat) := (List.range c.length).map fun k => ((List.range i).filter fun a => decide (k ∈ c.getD a [])) ++ if k ∈ (c.getD i []).take j then [i] else []

theorem pst_len (c : List (List Nat)) (i j : Nat) : (pst c i j).length = c.length := by simp [pst]
theorem pst_get (c : List (List Nat)) (i j k : Nat) (h : k < c.length) : (pst c i j).getD k [] = ((List.range i).filter fun a => decide (k ∈ c.getD a [])) ++ if k ∈ (c.getD i []).take j then [i] else [] := by
  unfold pst
  rw [List.getD_eq_getElem?_getD, List.getElem?_map, List.getElem?_range h]; rfl
theorem ext_getD {α : Type} (d : α) (l m : List α) (h : l.length = m.length) (hg : ∀ k, k < l.length → l.getD k d = m.getD k d) : l = m := by
  apply List.ext_getElem h
  intro i h1 h2
  have := hg i h1
  rw [List.getD_eq_getElem?_getD, List.getD_eq_getElem?_getD, List.getElem?_eq_getElem h1, List.getElem?_eq_getElem h2] at this
  simpa using this
theorem pst_zero (c : List (List Nat)) : pst c 0 0 = List.replicate c.length [] := by
  refine ext_getD [] _ _ (by simp [pst]) (fun k hk => ?_)
  rw [pst_len] at hk
  have e : (List.replicate c.length ([] : List Nat)).getD k [] = [] := by
    rw [List.getD_eq_getElem?_getD, List.getElem?_replicate, if_pos hk]; rfl
  rw [pst_get c 0 0 k hk, e]
  simp
theorem pst_row (c : List (List Nat)) (i : Nat) : pst c i (c.getD i []).length = pst c (i + 1) 0 := by
  refine ext_getD [] _ _ (by simp [pst]) (fun k hk => ?_)
  rw [pst_len] at hk
  rw [pst_get c i _ k hk, pst_get c (i + 1) 0 k hk, List.take_length, List.range_succ, List.filter_append]
  simp only [List.take_zero, List.not_mem_nil, if_false, List.append_nil]
  congr 1
  by_cases h : k ∈ c.getD i []
  · simp only [h, if_true, List.filter_cons, decide_true, List.filter_nil]
  · simp only [h, if_false, List.filter_cons, decide_false, List.filter_nil]
    rfl
theorem pst_step (c : List (List Nat)) (hc : Clean c) (i j : Nat) (hi : i < c.length) (hj : j < (c.getD i []).length) :
    pst c i (j + 1) = (pst c i j).set ((c.getD i []).getD j 0) ((pst c i j).getD ((c.getD i []).getD j 0) [] ++ [i]) := by
  obtain ⟨hn, hk⟩ := hc i hi
  have hm : (c.getD i []).getD j 0 = (c.getD i [])[j] := by
    rw [List.getD_eq_getElem?_getD (l := c.getD i []), List.getElem?_eq_getElem hj]; rfl
  have hkl : (c.getD i []).getD j 0 < c.length := hk _ (by rw [hm]; exact List.getElem_mem hj)
  have hnot : (c.getD i []).getD j 0 ∉ (c.getD i []).take j := by
    intro h
    obtain ⟨q, hq, e⟩ := List.getElem_of_mem h
    simp at hq
    rw [List.getElem_take, hm] at e
    have := nodup_get hn (by omega) hj e
    omega
  refine ext_getD [] _ _ (by simp [pst]) (fun k hk2 => ?_)
  rw [pst_len] at hk2
  rw [getD_set_if, pst_get c i (j + 1) k hk2, List.take_succ_eq_append_getElem hj, ← hm]
  by_cases e : (c.getD i []).getD j 0 = k
  · rw [if_pos (show (c.getD i []).getD j 0 = k ∧ (c.getD i []).getD j 0 < (pst c i j).length from ⟨e, by rw [pst_len]; exact hkl⟩), e, pst_get c i j k hk2, if_neg (show k ∉ (c.getD i []).take j from e ▸ hnot), if_pos (by simp)]
    simp
  · rw [if_neg (show ¬ ((c.getD i []).getD j 0 = k ∧ (c.getD i []).getD j 0 < (pst c i j).length) from fun h => e h.1), pst_get c i j k hk2]
    have : (k ∈ (c.getD i []).take j ++ [(c.getD i []).getD j 0]) ↔ k ∈ (c.getD i []).take j := by
      simp only [List.mem_append, List.mem_singleton]
      exact ⟨fun h => h.resolve_right (fun h => e h.symm), .inl⟩
    simp only [this]
theorem pst_all (c : List (List Nat)) : pst c c.length 0 = predsL c := by
  unfold pst predsL
  simp
theorem predsL_len (c : List (List Nat)) : (predsL c).length = c.length := by simp [predsL]
theorem predsL_get (c : List (List Nat)) (k : Nat) (h : k < c.length) : (predsL c).getD k [] = (List.range c.length).filter fun i => decide (k ∈ c.getD i []) := by
  unfold predsL
  rw [List.getD_eq_getElem?_getD, List.getElem?_map, List.getElem?_range h]; rfl
theorem predsL_clean (c : List (List Nat)) : Clean (predsL c) := by
  intro i hi
  rw [predsL_len] at hi
  rw [predsL_get c i hi, predsL_len]
  exact ⟨List.nodup_range.filter _, fun k hk => by simp at hk; exact hk.1⟩

/-- Places as integers. -/
def ints (l : List Nat) : List Int := l.map fun (x : Nat) => (x : Int)
theorem ints_len (l : List Nat) : (ints l).length = l.length := by simp [ints]
theorem ints_get (l : List Nat) (j : Nat) (h : j < l.length) : (ints l).getD j 0 = ((l.getD j 0 : Nat) : Int) := by
  unfold ints
  rw [List.getD_eq_getElem?_getD, List.getElem?_map, List.getElem?_eq_getElem h, List.getD_eq_getElem?_getD, List.getElem?_eq_getElem h]; rfl
theorem ints_snoc (l : List Nat) (x : Nat) : ints (l ++ [x]) = ints l ++ [(x : Int)] := by simp [ints]
theorem ints_inj {a b : List Nat} (h : ints a = ints b) : a = b := by
  induction a generalizing b with
  | nil => cases b with
    | nil => rfl
    | cons x t => simp [ints] at h
  | cons x t ih => cases b with
    | nil => simp [ints] at h
    | cons y u =>
      simp only [ints, List.map_cons, List.cons.injEq] at h
      rw [ih h.2, show x = y by omega]
def intsL (c : List (List Nat)) : List (List Int) := c.map ints
theorem intsL_len (c : List (List Nat)) : (intsL c).length = c.length := by simp [intsL]
theorem intsL_get (c : List (List Nat)) (i : Nat) : (intsL c).getD i [] = ints (c.getD i []) := by
  unfold intsL
  rw [List.getD_eq_getElem?_getD, List.getElem?_map, List.getD_eq_getElem?_getD]
  cases c[i]? <;> rfl
theorem intsL_set (c : List (List Nat)) (i : Nat) (l : List Nat) : (intsL c).set i (ints l) = intsL (c.set i l) := by
  unfold intsL
  rw [List.map_set]

/-- A graph of places is its own cleaned one. -/
theorem crow_self (n : Nat) (l : List Nat) (hn : l.Nodup) (hl : ∀ k ∈ l, k < n) : crow n (ints l) = l := by
  have key : ∀ (l acc : List Nat), (acc ++ l).Nodup → (∀ k ∈ l, k < n) → (ints l).foldl (cstep n) acc = acc ++ l := by
    intro l
    induction l with
    | nil => intro acc _ _; simp [ints]
    | cons a t ih =>
      intro acc h1 h2
      have ha := h2 a (by simp)
      have hna : a ∉ acc := fun hm => (List.nodup_append.1 h1).2.2 a hm a (by simp) rfl
      show (ints t).foldl (cstep n) (cstep n acc (a : Int)) = _
      have e : cstep n acc (a : Int) = acc ++ [a] := by
        unfold cstep
        rw [if_pos ⟨by omega, by omega, by simpa using hna⟩]
        simp
      rw [e, ih (acc ++ [a]) (by simpa using h1) (fun k hk => h2 k (List.mem_cons_of_mem _ hk))]
      simp
  have := key l [] (by simpa using hn) hl
  simpa [crow] using this
theorem cleanG_self (c : List (List Nat)) (hc : Clean c) : cleanG (intsL c) = c := by
  refine ext_getD [] _ _ (by simp [cleanG, intsL]) (fun i hi => ?_)
  rw [cleanG_len, intsL_len] at hi
  rw [cleanG_get _ _ (by rw [intsL_len]; exact hi), intsL_get, intsL_len]
  obtain ⟨h1, h2⟩ := hc i hi
  exact crow_self _ _ h1 h2

end Go.Proofs.YtjjkliifpdcliaaDoor
