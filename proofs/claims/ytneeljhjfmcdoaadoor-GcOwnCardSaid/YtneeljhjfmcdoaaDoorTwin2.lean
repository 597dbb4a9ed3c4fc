/- A heap and its mirror have the same shape. -/
import Derived.Test.YtneeljhjfmcdoaaDoorTwin
namespace Go.Proofs.YtneeljhjfmcdoaaDoor
open Go.RowKit

/-- An order of numbers below N, each once. -/
def InN (N : Nat) (od : List Int) : Prop := od.Nodup ∧ ∀ r ∈ od, 0 ≤ r ∧ r < (N : Int)

theorem InN.nil (N : Nat) : InN N [] := ⟨List.nodup_nil, by simp⟩
theorem InN.le {N : Nat} {od : List Int} (h : InN N od) : od.length ≤ N := by
  have h1 := len_le N (od.map (· + 1)) (by
    have := h.1
    unfold List.Nodup at this ⊢
    rw [List.pairwise_map]
    exact this.imp (fun hne e => hne (by omega))) (fun r hr => by
    obtain ⟨q, hq, rfl⟩ := List.mem_map.1 hr
    have := h.2 q hq
    omega)
  simpa using h1

section
variable {G : Gr} {N : Nat} (hG : ∀ r, G.is r = true → 0 ≤ r ∧ r < (N : Int))
include hG
theorem InN.meet {od : List Int} (h : InN N od) (r : Int) : InN N (G.meetO od r) := by
  unfold Gr.meetO
  split
  · rename_i hc
    refine ⟨?_, ?_⟩
    · rw [List.nodup_append]
      refine ⟨h.1, by simp, ?_⟩
      intro a ha b hb e
      simp at hb
      subst hb
      subst e
      exact hc.2 ha
    · intro q hq
      rcases List.mem_append.1 hq with hq | hq
      · exact h.2 q hq
      · simp at hq; subst hq; exact hG _ hc.1
  · exact h

theorem InN.vals {od : List Int} (h : InN N od) (r : Int) (n : Nat) : InN N (G.vals r od n).2 := by
  induction n with
  | zero => exact h
  | succ n ih =>
    rw [Gr.vals_succ]
    unfold Gr.valStep
    split
    · exact ih.meet hG _
    · exact ih

theorem InN.outN {od : List Int} (h : InN N od) (n : Nat) : InN N (G.outN n ([], od)).2 := by
  induction n with
  | zero => exact h
  | succ n ih =>
    show InN N (G.outStep (G.outN n ([], od))).2
    unfold Gr.outStep
    split
    · exact ih.vals hG _ _
    · exact ih

theorem InN.roots (rs : List Int) : InN N (G.roots rs).2 := by
  have : ∀ (l : List Int) (s : List Int × List Int), InN N s.2 → InN N (l.foldl G.rootStep s).2 := by
    intro l
    induction l with
    | nil => intro s h; exact h
    | cons a t ih => intro s h; exact ih _ (h.meet hG _)
  exact this rs _ (InN.nil N)

theorem outN_done {od : List Int} (h : InN N od) : ¬ (G.outN (N + 1) ([], od)).1.length < (G.outN (N + 1) ([], od)).2.length := by
  intro hlt
  have hall : ∀ n, n ≤ N + 1 → (G.outN n ([], od)).1.length = n := by
    intro n
    induction n with
    | zero => intro _; rfl
    | succ n ih =>
      intro hn
      have ih := ih (by omega)
      have hlt' : (G.outN n ([], od)).1.length < (G.outN n ([], od)).2.length := by
        refine Decidable.byContradiction fun hc => ?_
        have := Gr.outN_stay G _ n (N + 1) hc (by omega)
        rw [this] at hlt
        exact hc hlt
      show (G.outStep (G.outN n ([], od))).1.length = n + 1
      unfold Gr.outStep
      rw [if_pos hlt', List.length_append, ih]; rfl
  have h1 := hall (N + 1) (Nat.le_refl _)
  have h2 := (h.outN hG (N + 1)).le
  omega
end

theorem Twin.shape {S : Hp} {rf : List Int} {os : List (Int × List Int)} (h : Twin S rf os) (rs ts : List Int) (hl : rs.length = ts.length) (hr : ∀ k, k < rs.length → RR rf (rs.getD k 0) (ts.getD k 0)) (hn : os.length ≤ S.A.length) :
    S.shape rs = (objGr S.cs os).shapeN (os.length + 1) ts := by
  have hG : ∀ r, (objGr S.cs os).is r = true → 0 ≤ r ∧ r < (os.length : Int) := fun r hr => of_decide_eq_true hr
  rw [gr_shape, shape_sim h.alike (S.A.length + 1) rs ts hl hr]
  unfold Gr.shapeN
  rw [Gr.outN_stay _ _ (os.length + 1) (S.A.length + 1) (outN_done hG (InN.roots hG ts)) (by omega)]

end Go.Proofs.YtneeljhjfmcdoaaDoor
