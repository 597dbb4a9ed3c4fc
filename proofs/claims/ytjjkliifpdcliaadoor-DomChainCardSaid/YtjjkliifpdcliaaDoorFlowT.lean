/- Sorted rows; who goes on where, turned round twice. No program in sight. -/
import Derived.Test.YtjjkliifpdcliaaDoorSorted
import Derived.Test.YtjjkliifpdcliaaDoorCleanL
namespace Go.Proofs.YtjjkliifpdcliaaDoor

theorem sorted_eq : ∀ (a b : List Int), a.Pairwise (· < ·) → b.Pairwise (· < ·) → (∀ x, x ∈ a ↔ x ∈ b) → a = b := by
  intro a
  induction a with
  | nil =>
    intro b _ _ h
    cases b with
    | nil => rfl
    | cons y u => have := (h y).2 (by simp); simp at this
  | cons x t ih =>
    intro b ha hb h
    cases b with
    | nil => have := (h x).1 (by simp); simp at this
    | cons y u =>
      rw [List.pairwise_cons] at ha hb
      have hxy : x = y := by
        have h1 := (h x).1 (by simp)
        have h2 := (h y).2 (by simp)
        rcases List.mem_cons.1 h1 with h1 | h1
        · exact h1
        · rcases List.mem_cons.1 h2 with h2 | h2
          · exact h2.symm
          · have := ha.1 y h2
            have := hb.1 x h1
            omega
      subst hxy
      rw [ih u ha.2 hb.2 (fun z => by
        have h1 := h z
        simp only [List.mem_cons] at h1
        constructor
        · intro hz
          rcases h1.1 (.inr hz) with h2 | h2
          · have := ha.1 z hz; omega
          · exact h2
        · intro hz
          rcases h1.2 (.inr hz) with h2 | h2
          · have := hb.1 z hz; omega
          · exact h2)]

theorem insL_spec (out : List Int) (x : Int) (h : out.Pairwise (· < ·)) : (insL out x).Pairwise (· < ·) ∧ ∀ y, y ∈ insL out x ↔ y ∈ out ∨ y = x := by
  unfold insL
  split
  · rename_i he
    refine ⟨h, fun y => ⟨.inl, ?_⟩⟩
    rintro (h1 | rfl)
    · exact h1
    · obtain ⟨h1, h2⟩ := List.getElem?_eq_some_iff.1 he
      exact h2 ▸ List.getElem_mem h1
  · rename_i he
    have hle := lessN_le out x
    have hlo : ∀ a ∈ out.take (lessN out x), a < x := fun a ha => by
      obtain ⟨q, hq, rfl⟩ := List.getElem_of_mem ha
      rw [List.length_take] at hq
      have := lessN_lt out x q (by omega)
      rw [List.getD_eq_getElem?_getD, List.getElem?_eq_getElem (show q < out.length by omega)] at this
      rw [List.getElem_take]
      exact this
    have hhi : ∀ b ∈ out.drop (lessN out x), x < b := fun b hb => by
      obtain ⟨d, hd, rfl⟩ := List.getElem_of_mem hb
      simp at hd
      have hql : lessN out x < out.length := by omega
      have h1 := lessN_at out x hql
      rw [List.getD_eq_getElem?_getD, List.getElem?_eq_getElem hql] at h1
      have h2 : out[lessN out x] ≠ x := fun e => he (by rw [List.getElem?_eq_getElem hql, e])
      have h1' : x ≤ out[lessN out x] := h1
      rw [List.getElem_drop]
      by_cases hd0 : d = 0
      · subst hd0
        simp only [Nat.add_zero]
        omega
      · have := (List.pairwise_iff_getElem.1 h) (lessN out x) (lessN out x + d) hql (by omega) (by omega)
        omega
    refine ⟨?_, fun y => ?_⟩
    · rw [List.append_assoc, List.pairwise_append]
      have hsplit : (out.take (lessN out x) ++ out.drop (lessN out x)).Pairwise (· < ·) := by rwa [List.take_append_drop]
      rw [List.pairwise_append] at hsplit
      refine ⟨hsplit.1, ?_, ?_⟩
      · rw [List.singleton_append, List.pairwise_cons]
        exact ⟨hhi, hsplit.2.1⟩
      · intro a ha b hb
        rcases List.mem_append.1 hb with hb | hb
        · simp at hb; subst hb; exact hlo a ha
        · exact hsplit.2.2 a ha b hb
    · have : y ∈ out ↔ y ∈ out.take (lessN out x) ∨ y ∈ out.drop (lessN out x) := by
        conv => lhs; rw [← List.take_append_drop (lessN out x) out]
        exact List.mem_append
      rw [this]
      simp only [List.mem_append, List.mem_singleton]
      constructor
      · rintro ((h1 | h1) | h1)
        · exact .inl (.inl h1)
        · exact .inr h1
        · exact .inl (.inr h1)
      · rintro ((h1 | h1) | h1)
        · exact .inl (.inl h1)
        · exact .inr h1
        · exact .inl (.inr h1)

theorem sortL_spec (l : List Int) : (sortL l).Pairwise (· < ·) ∧ ∀ y, y ∈ sortL l ↔ y ∈ l := by
  have key : ∀ (l out : List Int), out.Pairwise (· < ·) → (l.foldl insL out).Pairwise (· < ·) ∧ ∀ y, y ∈ l.foldl insL out ↔ y ∈ out ∨ y ∈ l := by
    intro l
    induction l with
    | nil => intro out h; exact ⟨h, fun y => by simp⟩
    | cons a t ih =>
      intro out h
      obtain ⟨h1, h2⟩ := insL_spec out a h
      obtain ⟨h3, h4⟩ := ih _ h1
      refine ⟨h3, fun y => ?_⟩
      rw [List.foldl_cons, h4, h2]
      simp only [List.mem_cons]
      constructor
      · rintro ((h5 | h5) | h5)
        · exact .inl h5
        · exact .inr (.inl h5)
        · exact .inr (.inr h5)
      · rintro (h5 | h5 | h5)
        · exact .inl (.inl h5)
        · exact .inl (.inr h5)
        · exact .inr h5
  have := key l [] List.Pairwise.nil
  refine ⟨this.1, fun y => ?_⟩
  have h := this.2 y
  simpa [sortL] using h

/-- Those of a row that are places. -/
def valid (n : Nat) (l : List Int) : List Int := l.filter fun k => decide (0 ≤ k) && decide (k < (n : Int))

theorem valid_take (n : Nat) (l : List Int) (j : Nat) (h : j < l.length) : valid n (l.take (j + 1)) = if 0 ≤ l.getD j 0 ∧ l.getD j 0 < (n : Int) then valid n (l.take j) ++ [l.getD j 0] else valid n (l.take j) := by
  unfold valid
  rw [List.take_succ_eq_append_getElem h, List.filter_append]
  have e : l.getD j 0 = l[j] := by rw [List.getD_eq_getElem?_getD, List.getElem?_eq_getElem h]; rfl
  rw [e]
  by_cases h1 : 0 ≤ l[j] ∧ l[j] < (n : Int)
  · rw [if_pos h1]
    simp [h1.1, h1.2]
  · rw [if_neg h1]
    have : (decide (0 ≤ l[j]) && decide (l[j] < (n : Int))) = false := by
      rw [Bool.and_eq_false_iff, decide_eq_false_iff_not, decide_eq_false_iff_not]
      omega
    simp [this]

theorem turned (g : List (List Int)) (i : Nat) (hi : i < g.length) : ints ((predsL (predsL (cleanG g))).getD i []) = sortL (valid g.length (g.getD i [])) := by
  obtain ⟨h1, h2⟩ := sortL_spec (valid g.length (g.getD i []))
  have hl : (predsL (cleanG g)).length = g.length := by rw [predsL_len, cleanG_len]
  rw [predsL_get _ i (by omega), hl]
  refine sorted_eq _ _ ?_ h1 (fun x => ?_)
  · unfold ints
    rw [List.pairwise_map]
    have : ((List.range g.length).filter fun k => decide (i ∈ (predsL (cleanG g)).getD k [])).Pairwise (· < ·) := List.pairwise_lt_range.filter _
    exact this.imp (fun h => by omega)
  · rw [h2]
    unfold ints valid
    simp only [List.mem_map, List.mem_filter, List.mem_range, decide_eq_true_eq, Bool.and_eq_true]
    constructor
    · rintro ⟨k, ⟨hk, hm⟩, rfl⟩
      rw [predsL_get _ k (by rw [cleanG_len]; exact hk)] at hm
      simp only [List.mem_filter, decide_eq_true_eq] at hm
      rw [cleanG_get g i hi] at hm
      exact ⟨((crow_spec _ _).2 k).1 hm.2 |>.2, by omega, by omega⟩
    · rintro ⟨hm, h3, h4⟩
      refine ⟨x.toNat, ⟨by omega, ?_⟩, by omega⟩
      rw [predsL_get _ _ (by rw [cleanG_len]; omega)]
      simp only [List.mem_filter, List.mem_range, decide_eq_true_eq]
      rw [cleanG_get g i hi, cleanG_len]
      exact ⟨hi, ((crow_spec _ _).2 _).2 ⟨by omega, by rw [Int.toNat_of_nonneg h3]; exact hm⟩⟩

end Go.Proofs.YtjjkliifpdcliaaDoor
