/- The walk in depth: it ends; what its end says. No program in sight. -/
import Derived.Test.YtjjkliifpdcliaaDoorDfs
namespace Go.Proofs.YtjjkliifpdcliaaDoor

theorem len_leN : ∀ (n : Nat) (l : List Nat), l.Nodup → (∀ r ∈ l, r < n) → l.length ≤ n := by
  intro n
  induction n with
  | zero =>
    intro l _ h
    cases l with
    | nil => simp
    | cons a t => have := h a (by simp); omega
  | succ n ih =>
    intro l hn h
    have h1 := ih (l.erase n) (hn.erase _) (fun r hr => by
      have h2 := (hn.mem_erase_iff).1 hr
      have h3 := h r h2.2
      have h4 := h2.1
      omega)
    have h5 := List.length_erase (a := n) (l := l)
    split at h5 <;> omega

theorem DInv.lt {c : List (List Nat)} {s : Dfs} (h : DInv c s) {i : Nat} (hi : i ∈ s.ord) : i < c.length := by
  have h1 : s.st.getD i 0 ≠ 0 := by
    unfold Dfs.ord at hi
    simp at hi
    rcases hi with hi | hi
    · have := (h.post2 _).1 hi; omega
    · have := (h.stk1 _).1 hi; omega
  rw [← h.lst]
  rcases Nat.lt_or_ge i s.st.length with h2 | h2
  · exact h2
  · rw [List.getD_eq_getElem?_getD, List.getElem?_eq_none h2] at h1; simp at h1
theorem DInv.ordle {c : List (List Nat)} {s : Dfs} (h : DInv c s) : s.post.length + s.stk.length ≤ c.length := by
  have := len_leN c.length s.ord h.nd (fun r hr => h.lt hr)
  unfold Dfs.ord at this
  simpa using this

/-- The sum of a row's numbers below m. -/
def sumTo (l : List Nat) : Nat → Nat
  | 0 => 0
  | m + 1 => sumTo l m + l.getD m 0
theorem sumTo_le (l k : List Nat) (m : Nat) (h : ∀ i, i < m → l.getD i 0 ≤ k.getD i 0) : sumTo l m ≤ sumTo k m := by
  induction m with
  | zero => exact Nat.le_refl _
  | succ m ih =>
    have h1 := ih (fun i hi => h i (by omega))
    have h2 := h m (by omega)
    show sumTo l m + _ ≤ sumTo k m + _
    omega
theorem sumTo_same (l k : List Nat) (m : Nat) (h : ∀ i, i < m → l.getD i 0 = k.getD i 0) : sumTo l m = sumTo k m := by
  induction m with
  | zero => rfl
  | succ m ih =>
    show sumTo l m + _ = sumTo k m + _
    rw [ih (fun i hi => h i (by omega)), h m (by omega)]
theorem sumTo_set (l : List Nat) (i x m : Nat) (hi : i < m) (hl : m ≤ l.length) : sumTo (l.set i x) m + l.getD i 0 = sumTo l m + x := by
  induction m with
  | zero => omega
  | succ m ih =>
    show sumTo (l.set i x) m + (l.set i x).getD m 0 + _ = sumTo l m + l.getD m 0 + x
    rw [getD_set_if]
    by_cases e : i = m
    · subst e
      rw [if_pos ⟨rfl, by omega⟩, sumTo_same (l.set i x) l i (fun j hj => by rw [getD_set_if, if_neg (by omega)])]
      omega
    · rw [if_neg (by omega)]
      have := ih (by omega) (by omega)
      omega

def degs (c : List (List Nat)) : List Nat := c.map List.length
theorem degs_get (c : List (List Nat)) (i : Nat) (_h : i < c.length) : (degs c).getD i 0 = (c.getD i []).length := by
  unfold degs
  rw [List.getD_eq_getElem?_getD, List.getElem?_map, List.getElem?_eq_getElem _h, List.getD_eq_getElem?_getD, List.getElem?_eq_getElem _h]; rfl
theorem sumTo_sum (l : List Nat) : sumTo l l.length = l.sum := by
  have key : ∀ (l : List Nat) (m : Nat), m ≤ l.length → sumTo l m = (l.take m).sum := by
    intro l m
    induction m with
    | zero => intro _; rfl
    | succ m ih =>
      intro hm
      show sumTo l m + l.getD m 0 = _
      rw [ih (by omega), List.take_succ_eq_append_getElem (by omega), List.sum_append, List.getD_eq_getElem?_getD, List.getElem?_eq_getElem (by omega)]
      simp
  have := key l l.length (Nat.le_refl _)
  rwa [List.take_length] at this

/-- How far a walk has come. -/
def Dfs.far (c : List (List Nat)) (s : Dfs) : Nat := s.post.length + sumTo s.nx c.length

theorem DInv.far_le {c : List (List Nat)} {s : Dfs} (h : DInv c s) : s.far c + s.stk.length ≤ edges c + c.length := by
  have h1 := h.ordle
  have h2 := sumTo_le s.nx (degs c) c.length (fun i hi => by rw [degs_get c i hi]; exact h.nxle i hi)
  have h3 : sumTo (degs c) c.length = edges c := by
    have := sumTo_sum (degs c)
    unfold degs at this ⊢
    rwa [List.length_map] at this
  unfold Dfs.far
  omega

theorem DInv.toplt {c : List (List Nat)} {s : Dfs} (h : DInv c s) (hs : s.stk ≠ []) : s.top < c.length := by
  refine h.lt ?_
  unfold Dfs.ord
  rw [stk_split s hs]; simp

theorem far_step {c : List (List Nat)} {s : Dfs} (h : DInv c s) (hs : s.stk ≠ []) : (s.step c).far c = s.far c + 1 := by
  have ht := h.toplt hs
  have hl := h.lnx
  unfold Dfs.step Dfs.far
  have key : sumTo (s.nx.set s.top (s.nx.getD s.top 0 + 1)) c.length = sumTo s.nx c.length + 1 := by
    have := sumTo_set s.nx s.top (s.nx.getD s.top 0 + 1) c.length ht (by omega)
    omega
  split
  · simp; omega
  · split
    · show s.post.length + sumTo (s.nx.set _ _) _ = _
      rw [key]; omega
    · split
      · show s.post.length + sumTo (s.nx.set _ _) _ = _
        rw [key]; omega
      · show s.post.length + sumTo (s.nx.set _ _) _ = _
        rw [key]; omega

/-- The state behind t steps: what always holds; how far. -/
theorem run_inv {c : List (List Nat)} (hc : Clean c) (h0 : c ≠ []) (t : Nat) : DInv c (Dfs.run c (Dfs.init c.length) t) ∧ ((Dfs.run c (Dfs.init c.length) t).stk = [] ∨ (Dfs.run c (Dfs.init c.length) t).far c = t) := by
  induction t with
  | zero =>
    refine ⟨DInv.init c h0, .inr ?_⟩
    show ([] : List Nat).length + sumTo (List.replicate c.length 0) c.length = 0
    rw [sumTo_same (List.replicate c.length 0) [] c.length (fun i _ => by rw [List.getD_eq_getElem?_getD, List.getElem?_replicate]; split <;> rfl)]
    have : ∀ m, sumTo [] m = 0 := fun m => by
      induction m with
      | zero => rfl
      | succ m ih => show sumTo [] m + 0 = 0; rw [ih]
    rw [this]; rfl
  | succ t ih =>
    obtain ⟨h1, h2⟩ := ih
    have e : Dfs.run c (Dfs.init c.length) (t + 1) = if (Dfs.run c (Dfs.init c.length) t).stk = [] then Dfs.run c (Dfs.init c.length) t else (Dfs.run c (Dfs.init c.length) t).step c := rfl
    rw [e]
    by_cases hs : (Dfs.run c (Dfs.init c.length) t).stk = []
    · rw [if_pos hs]
      exact ⟨h1, .inl hs⟩
    · rw [if_neg hs]
      refine ⟨h1.step hc hs, .inr ?_⟩
      rw [far_step h1 hs]
      rcases h2 with h2 | h2
      · exact absurd h2 hs
      · omega

/-- When the stack is empty the walk is over. -/
theorem run_end {c : List (List Nat)} (hc : Clean c) (h0 : c ≠ []) (t : Nat) (hs : (Dfs.run c (Dfs.init c.length) t).stk = []) : Dfs.run c (Dfs.init c.length) t = dfs c := by
  have hfin : (Dfs.run c (Dfs.init c.length) (edges c + c.length)).stk = [] := by
    obtain ⟨h1, h2⟩ := run_inv hc h0 (edges c + c.length)
    rcases h2 with h2 | h2
    · exact h2
    · have := h1.far_le
      exact List.eq_nil_of_length_eq_zero (by omega)
  unfold dfs
  rw [if_neg h0]
  rcases Nat.le_total t (edges c + c.length) with h | h
  · exact (run_stay c _ t _ hs h).symm
  · exact run_stay c _ _ t hfin h

theorem run_step {c : List (List Nat)} (t : Nat) (hs : (Dfs.run c (Dfs.init c.length) t).stk ≠ []) : Dfs.run c (Dfs.init c.length) (t + 1) = (Dfs.run c (Dfs.init c.length) t).step c := by
  show (if _ then _ else _) = _
  rw [if_neg hs]

/-- The walk's end. -/
theorem dfs_inv {c : List (List Nat)} (hc : Clean c) (h0 : c ≠ []) : DInv c (dfs c) ∧ (dfs c).stk = [] := by
  obtain ⟨h1, h2⟩ := run_inv hc h0 (edges c + c.length)
  have hfin : (Dfs.run c (Dfs.init c.length) (edges c + c.length)).stk = [] := by
    rcases h2 with h2 | h2
    · exact h2
    · have := h1.far_le
      exact List.eq_nil_of_length_eq_zero (by omega)
  unfold dfs
  rw [if_neg h0]
  exact ⟨h1, hfin⟩

end Go.Proofs.YtjjkliifpdcliaaDoor
