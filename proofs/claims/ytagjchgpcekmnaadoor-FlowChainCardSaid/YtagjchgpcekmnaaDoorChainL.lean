/- FlowChain, plain: a row of places, some with a way back: its order, its loops. -/
import Derived.Test.YtagjchgpcekmnaaDoorDfs2
import Derived.Test.YtagjchgpcekmnaaDoorCleanL
namespace Go.Proofs.YtagjchgpcekmnaaDoor

/-- A row's place i: the next one, and the way back. -/
def crowN (n : Nat) (f : Nat → Option Nat) (i : Nat) : List Nat := (if i + 1 < n then [i + 1] else []) ++ (f i).toList
def chainC (n : Nat) (f : Nat → Option Nat) : List (List Nat) := (List.range n).map (crowN n f)
def tab (n : Nat) (h : Nat → Nat) : List Nat := (List.range n).map h
theorem tab_len (n : Nat) (h : Nat → Nat) : (tab n h).length = n := by simp [tab]
theorem tab_get (n : Nat) (h : Nat → Nat) (i : Nat) (hi : i < n) : (tab n h).getD i 0 = h i := by simp [tab, List.getD_eq_getElem?_getD, hi]
theorem tab_set (n : Nat) (h k : Nat → Nat) (i v : Nat) (e : ∀ j, j < n → k j = if j = i then v else h j) : (tab n h).set i v = tab n k := by
  unfold tab
  apply List.ext_getElem
  · simp
  · intro j h1 h2
    simp only [List.getElem_set, List.getElem_map, List.getElem_range]
    rw [e j (by simpa using h2)]
    by_cases e2 : i = j
    · subst e2; simp
    · rw [if_neg e2, if_neg (Ne.symm e2)]
theorem tab_congr (n : Nat) (h k : Nat → Nat) (e : ∀ j, j < n → h j = k j) : tab n h = tab n k :=
  List.map_congr_left (fun j hj => e j (List.mem_range.1 hj))
theorem rep_tab (n : Nat) : List.replicate n 0 = tab n (fun _ => 0) := by
  unfold tab
  apply List.ext_getElem
  · simp
  · intro i h1 h2; simp
theorem chainC_len (n : Nat) (f : Nat → Option Nat) : (chainC n f).length = n := by simp [chainC]
theorem chainC_get (n : Nat) (f : Nat → Option Nat) (i : Nat) (hi : i < n) : (chainC n f).getD i [] = crowN n f i := by simp [chainC, List.getD_eq_getElem?_getD, hi]
theorem range_get (n i : Nat) (h : i < n) : (List.range n).getD i 0 = i := by simp [List.getD_eq_getElem?_getD, h]

def rowLen (n : Nat) (f : Nat → Option Nat) (k : Nat) : Nat := (crowN n f k).length
/-- Going down: m steps. -/
def downS (n m : Nat) : Dfs := ⟨tab n (fun k => if k ≤ m then 1 else 0), tab n (fun k => if k < m then 1 else 0), List.range (m + 1), [], []⟩
def backL (f : Nat → Option Nat) (n : Nat) : Nat → List (Nat × Nat)
  | 0 => []
  | m + 1 => backL f n m ++ (f (n - 1 - m)).toList.map fun t => (n - 1 - m, t)
def postL (n m : Nat) : List Nat := (List.range m).map fun k => n - 1 - k
/-- Going up: the last m places are left. -/
def upS (n : Nat) (f : Nat → Option Nat) (m : Nat) : Dfs :=
  ⟨tab n (fun k => if n ≤ k + m then 2 else 1), tab n (fun k => if n ≤ k + m then rowLen n f k else if k + 1 < n then 1 else 0), List.range (n - m), postL n m, backL f n m⟩

theorem down_run (n : Nat) (f : Nat → Option Nat) (hn : 0 < n) : ∀ m, m < n → Dfs.run (chainC n f) (Dfs.init (chainC n f).length) m = downS n m
  | 0, _ => by
    show Dfs.init _ = _
    rw [chainC_len]
    unfold Dfs.init downS
    have e1 : (List.replicate n 0).set 0 1 = tab n (fun k => if k ≤ 0 then 1 else 0) := by
      rw [rep_tab, tab_set n _ (fun k => if k ≤ 0 then 1 else 0) 0 1]
      intro j _
      by_cases e : j = 0
      · subst e; simp
      · rw [if_neg (by omega), if_neg e]
    have e2 : List.replicate n 0 = tab n (fun k => if k < 0 then 1 else 0) := by rw [rep_tab]; exact tab_congr _ _ _ (fun j _ => by simp)
    rw [e1, ← e2]
    rfl
  | m + 1, hm => by
    have ih := down_run n f hn m (by omega)
    rw [run_step m (by rw [ih]; simp [downS]), ih]
    have htop : (downS n m).top = m := by
      unfold Dfs.top downS
      simp only [List.length_range]
      rw [range_get _ _ (by omega)]; omega
    have hnx : (downS n m).nx.getD m 0 = 0 := by unfold downS; simp only; rw [tab_get _ _ _ (by omega)]; simp
    have hrow : (chainC n f).getD m [] = crowN n f m := chainC_get n f m (by omega)
    have hc : crowN n f m = (m + 1) :: (f m).toList := by unfold crowN; rw [if_pos hm]; rfl
    have hst : (downS n m).st.getD (m + 1) 0 = 0 := by unfold downS; simp only; rw [tab_get _ _ _ hm]; simp
    unfold Dfs.step
    rw [htop, hnx, hrow, hc]
    rw [if_neg (by simp)]
    simp only [List.getD_cons_zero]
    rw [if_pos hst]
    unfold downS
    simp only [Dfs.mk.injEq, and_true]
    refine ⟨?_, ?_, ?_⟩
    · refine tab_set _ _ _ _ _ (fun j _ => ?_)
      by_cases e : j = m + 1
      · rw [if_pos e, if_pos (by omega)]
      · rw [if_neg e]
        by_cases e2 : j ≤ m
        · rw [if_pos e2, if_pos (by omega)]
        · rw [if_neg e2, if_neg (by omega)]
    · refine tab_set _ _ _ _ _ (fun j _ => ?_)
      by_cases e : j = m
      · rw [if_pos e, if_pos (by omega)]
      · rw [if_neg e]
        by_cases e2 : j < m
        · rw [if_pos e2, if_pos (by omega)]
        · rw [if_neg e2, if_neg (by omega)]
    · rw [List.range_succ (n := m + 1)]

theorem up_zero (n : Nat) (f : Nat → Option Nat) (hn : 0 < n) : downS n (n - 1) = upS n f 0 := by
  unfold downS upS
  simp only [Dfs.mk.injEq]
  refine ⟨tab_congr _ _ _ (fun j hj => ?_), tab_congr _ _ _ (fun j hj => ?_), by rw [show n - 1 + 1 = n - 0 by omega], by simp [postL], rfl⟩
  · rw [if_pos (by omega), if_neg (by omega)]
  · rw [if_neg (by omega : ¬ n ≤ j + 0)]
    by_cases e : j < n - 1
    · rw [if_pos e, if_pos (by omega)]
    · rw [if_neg e, if_neg (by omega)]

theorem up_step (n : Nat) (f : Nat → Option Nat) (hf : ∀ i t, f i = some t → t ≤ i) (m : Nat) (hm : m < n) (t : Nat) (h : Dfs.run (chainC n f) (Dfs.init (chainC n f).length) t = upS n f m) :
    ∃ t', Dfs.run (chainC n f) (Dfs.init (chainC n f).length) t' = upS n f (m + 1) := by
  have hne : (upS n f m).stk ≠ [] := by unfold upS; simp; omega
  have htop : ∀ s : Dfs, s.stk = List.range (n - m) → s.top = n - 1 - m := fun s hs => by
    unfold Dfs.top
    rw [hs, List.length_range, range_get _ _ (by omega)]; omega
  have hrow : (chainC n f).getD (n - 1 - m) [] = crowN n f (n - 1 - m) := chainC_get n f _ (by omega)
  have hnx : (upS n f m).nx.getD (n - 1 - m) 0 = if n - 1 - m + 1 < n then 1 else 0 := by
    unfold upS; simp only; rw [tab_get _ _ _ (by omega), if_neg (by omega)]
  have hpost : postL n m ++ [n - 1 - m] = postL n (m + 1) := by unfold postL; rw [List.range_succ, List.map_append]; rfl
  have hstk : (List.range (n - m)).take ((List.range (n - m)).length - 1) = List.range (n - (m + 1)) := by
    rw [List.length_range, List.take_range, Nat.min_eq_left (by omega)]
    congr 1
  have hst2 : (tab n (fun k => if n ≤ k + m then 2 else 1)).set (n - 1 - m) 2 = tab n (fun k => if n ≤ k + (m + 1) then 2 else 1) := by
    refine tab_set _ _ _ _ _ (fun j hj => ?_)
    by_cases e : j = n - 1 - m
    · rw [if_pos e, if_pos (by omega)]
    · rw [if_neg e]
      by_cases e2 : n ≤ j + m
      · rw [if_pos e2, if_pos (by omega)]
      · rw [if_neg e2, if_neg (by omega)]
  have hnx2 : (upS n f (m + 1)).nx = (tab n (fun k => if n ≤ k + m then rowLen n f k else if k + 1 < n then 1 else 0)).set (n - 1 - m) (rowLen n f (n - 1 - m)) := by
    unfold upS
    simp only
    symm
    refine tab_set _ _ _ _ _ (fun j hj => ?_)
    by_cases e : j = n - 1 - m
    · rw [if_pos e, if_pos (by omega), e]
    · rw [if_neg e]
      by_cases e2 : n ≤ j + m
      · rw [if_pos e2, if_pos (by omega)]
      · rw [if_neg e2, if_neg (by omega)]
  cases hfk : f (n - 1 - m) with
  | none =>
    refine ⟨t + 1, ?_⟩
    rw [run_step t (by rw [h]; exact hne), h]
    have hlen : (crowN n f (n - 1 - m)).length = if n - 1 - m + 1 < n then 1 else 0 := by
      unfold crowN; rw [hfk]; split <;> simp
    unfold Dfs.step
    rw [htop (upS n f m) rfl, hnx, hrow, hlen, if_pos rfl]
    have hn3 : (upS n f (m + 1)).nx = (upS n f m).nx := by
      rw [hnx2]
      unfold upS rowLen
      simp only
      refine tab_set _ _ _ _ _ (fun j hj => ?_)
      by_cases e : j = n - 1 - m
      · rw [if_pos e, if_neg (by omega), e, hlen]
      · rw [if_neg e]
    unfold upS at hn3 ⊢
    simp only [Dfs.mk.injEq] at hn3 ⊢
    refine ⟨hst2, hn3.symm, hstk, hpost, ?_⟩
    show _ = backL f n m ++ _
    rw [hfk]; simp
  | some b =>
    have hb := hf _ _ hfk
    have hlen : (crowN n f (n - 1 - m)).length = (if n - 1 - m + 1 < n then 1 else 0) + 1 := by
      unfold crowN; rw [hfk]; split <;> simp
    have hget : (crowN n f (n - 1 - m)).getD (if n - 1 - m + 1 < n then 1 else 0) 0 = b := by
      unfold crowN; rw [hfk]; split <;> simp
    have h1 : Dfs.run (chainC n f) (Dfs.init (chainC n f).length) (t + 1) = ⟨(upS n f m).st, (upS n f (m + 1)).nx, List.range (n - m), postL n m, backL f n (m + 1)⟩ := by
      rw [run_step t (by rw [h]; exact hne), h]
      unfold Dfs.step
      have hsb : (upS n f m).st.getD b 0 = 1 := by
        unfold upS; simp only; rw [tab_get _ _ _ (by omega), if_neg (by omega)]
      rw [htop (upS n f m) rfl, hnx, hrow, hlen, if_neg (by omega), hget, hsb, if_neg (by omega), if_pos rfl]
      simp only [Dfs.mk.injEq]
      refine ⟨trivial, ?_, rfl, rfl, ?_⟩
      · rw [hnx2]
        unfold upS rowLen
        simp only
        rw [hlen]
      · show _ = backL f n m ++ _
        rw [hfk]; rfl
    refine ⟨t + 1 + 1, ?_⟩
    rw [run_step (t + 1) (by rw [h1]; simp; omega), h1]
    unfold Dfs.step
    rw [htop _ rfl]
    have hn4 : (upS n f (m + 1)).nx.getD (n - 1 - m) 0 = (crowN n f (n - 1 - m)).length := by
      unfold upS; simp only; rw [tab_get _ _ _ (by omega), if_pos (by omega)]; rfl
    simp only
    rw [hn4, hrow, if_pos rfl]
    unfold upS
    simp only [Dfs.mk.injEq]
    exact ⟨hst2, trivial, hstk, hpost, trivial⟩

theorem chain_clean (n : Nat) (f : Nat → Option Nat) (hf : ∀ i t, f i = some t → t ≤ i) : Clean (chainC n f) := fun i hi => by
  rw [chainC_len] at hi
  rw [chainC_get n f i hi]
  unfold crowN
  cases hfi : f i with
  | none =>
    rw [chainC_len]
    split
    · refine ⟨by simp, fun k hk => ?_⟩
      simp at hk; omega
    · simp
  | some b =>
    have := hf i b hfi
    split
    · refine ⟨by simp; omega, fun k hk => ?_⟩
      rw [chainC_len]
      simp at hk; omega
    · refine ⟨by simp, fun k hk => ?_⟩
      rw [chainC_len]
      simp at hk; omega

theorem chain_dfs (n : Nat) (f : Nat → Option Nat) (hf : ∀ i t, f i = some t → t ≤ i) (hn : 0 < n) : dfs (chainC n f) = upS n f n := by
  have h0 : ∃ t, Dfs.run (chainC n f) (Dfs.init (chainC n f).length) t = upS n f 0 := ⟨n - 1, by rw [down_run n f hn _ (by omega), up_zero n f hn]⟩
  have h1 : ∀ m, m ≤ n → ∃ t, Dfs.run (chainC n f) (Dfs.init (chainC n f).length) t = upS n f m := by
    intro m
    induction m with
    | zero => intro _; exact h0
    | succ m ih =>
      intro hm
      obtain ⟨t, ht⟩ := ih (by omega)
      exact up_step n f hf m (by omega) t ht
  obtain ⟨t, ht⟩ := h1 n (Nat.le_refl _)
  rw [← run_end (chain_clean n f hf) (fun e => by have := chainC_len n f; rw [e] at this; simp at this; omega) t (by rw [ht]; unfold upS; simp), ht]

/-- How many of the first i places have a way back. -/
def cnt (f : Nat → Option Nat) : Nat → Nat
  | 0 => 0
  | i + 1 => cnt f i + (f i).toList.length
theorem backL_len (f : Nat → Option Nat) (n : Nat) : ∀ m, m ≤ n → (backL f n m).length + cnt f (n - m) = cnt f n
  | 0, _ => by simp [backL]
  | m + 1, h => by
    have := backL_len f n m (by omega)
    have e : n - m = (n - 1 - m) + 1 := by omega
    rw [e] at this
    unfold backL
    rw [List.length_append, List.length_map, show n - (m + 1) = n - 1 - m by omega]
    simp only [cnt] at this
    omega
theorem chain_order (n : Nat) (f : Nat → Option Nat) (hf : ∀ i t, f i = some t → t ≤ i) (hn : 0 < n) : (dfs (chainC n f)).post.reverse = List.range n ∧ (dfs (chainC n f)).back.length = cnt f n := by
  rw [chain_dfs n f hf hn]
  refine ⟨?_, ?_⟩
  · unfold upS postL
    simp only
    apply List.ext_getElem
    · simp
    · intro i h1 h2
      simp at h1
      simp
      omega
  · have := backL_len f n n (Nat.le_refl _)
    rw [Nat.sub_self] at this
    simp only [cnt] at this
    exact this

end Go.Proofs.YtagjchgpcekmnaaDoor
