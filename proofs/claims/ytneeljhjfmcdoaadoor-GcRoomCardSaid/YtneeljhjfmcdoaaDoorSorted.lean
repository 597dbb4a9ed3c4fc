/- overdriveref.Sorted: what it computes; its walk. -/
import Derived.Test.YtneeljhjfmcdoaaDoorInts
namespace Go.Proofs.YtneeljhjfmcdoaaDoor
open Go.RowKit

/-- How many at the front are less. -/
def lessN (out : List Int) (x : Int) : Nat := (out.takeWhile fun y => decide (y < x)).length
/-- A number is laid into a rising list. -/
def insL (out : List Int) (x : Int) : List Int := if out[lessN out x]? = some x then out else out.take (lessN out x) ++ [x] ++ out.drop (lessN out x)
def sortL (l : List Int) : List Int := l.foldl insL []

theorem lessN_le (out : List Int) (x : Int) : lessN out x ≤ out.length := by
  unfold lessN
  induction out with
  | nil => simp
  | cons a t ih => rw [List.takeWhile_cons]; split <;> simp; omega

theorem lessN_lt (out : List Int) (x : Int) (k : Nat) (h : k < lessN out x) : out.getD k 0 < x := by
  unfold lessN at h
  induction out generalizing k with
  | nil => simp at h
  | cons a t ih =>
    rw [List.takeWhile_cons] at h
    split at h
    · rename_i ha
      cases k with
      | zero => simpa using ha
      | succ k => simp at h ⊢; simpa using ih k h
    · simp at h

theorem lessN_at (out : List Int) (x : Int) (h : lessN out x < out.length) : x ≤ out.getD (lessN out x) 0 := by
  unfold lessN at h ⊢
  induction out with
  | nil => simp at h
  | cons a t ih =>
    rw [List.takeWhile_cons] at h ⊢
    split at h
    · rename_i ha
      rw [if_pos ha]
      simp at h ⊢
      simpa using ih h
    · rename_i ha
      rw [if_neg ha]
      simp at ha ⊢
      exact ha

theorem sortL_take (l : List Int) (k : Nat) (h : k < l.length) : sortL (l.take (k + 1)) = insL (sortL (l.take k)) (l.getD k 0) := by
  have : l.take (k + 1) = l.take k ++ [l.getD k 0] := by
    rw [List.take_add_one, List.getElem?_eq_getElem h, List.getD_eq_getElem?_getD, List.getElem?_eq_getElem h]; rfl
  rw [this]
  simp [sortL]

theorem insL_len (out : List Int) (x : Int) : (insL out x).length ≤ out.length + 1 := by
  unfold insL
  have := lessN_le out x
  split
  · omega
  · simp; omega

theorem sortL_len (l : List Int) : (sortL l).length ≤ l.length := by
  have h : ∀ (l out : List Int), (l.foldl insL out).length ≤ out.length + l.length := by
    intro l
    induction l with
    | nil => intro out; simp
    | cons a t ih => intro out; rw [List.foldl_cons]; have h1 := ih (insL out a); have h2 := insL_len out a; simp; omega
  simpa [sortL] using h l []

theorem sorted_eq : ∀ (a b : List Int), a.Pairwise (· < ·) → b.Pairwise (· < ·) → (∀ x, x ∈ a ↔ x ∈ b) → a = b := by
  intro a
  induction a with
  | nil =>
    intro b _ _ h
    cases b with
    | nil => rfl
    | cons y u => have := (h y).2 (by simp); simp at this
  | cons x t ih =>
    intro b ha hb h
    cases b with
    | nil => have := (h x).1 (by simp); simp at this
    | cons y u =>
      rw [List.pairwise_cons] at ha hb
      have hxy : x = y := by
        have h1 := (h x).1 (by simp)
        have h2 := (h y).2 (by simp)
        rcases List.mem_cons.1 h1 with h1 | h1
        · exact h1
        · rcases List.mem_cons.1 h2 with h2 | h2
          · exact h2.symm
          · have := ha.1 y h2
            have := hb.1 x h1
            omega
      subst hxy
      rw [ih u ha.2 hb.2 (fun z => by
        have h1 := h z
        simp only [List.mem_cons] at h1
        constructor
        · intro hz
          rcases h1.1 (.inr hz) with h2 | h2
          · have := ha.1 z hz; omega
          · exact h2
        · intro hz
          rcases h1.2 (.inr hz) with h2 | h2
          · have := hb.1 z hz; omega
          · exact h2)]
theorem insL_spec (out : List Int) (x : Int) (h : out.Pairwise (· < ·)) : (insL out x).Pairwise (· < ·) ∧ ∀ y, y ∈ insL out x ↔ y ∈ out ∨ y = x := by
  unfold insL
  split
  · rename_i he
    refine ⟨h, fun y => ⟨.inl, ?_⟩⟩
    rintro (h1 | rfl)
    · exact h1
    · obtain ⟨h1, h2⟩ := List.getElem?_eq_some_iff.1 he
      exact h2 ▸ List.getElem_mem h1
  · rename_i he
    have hle := lessN_le out x
    have hlo : ∀ a ∈ out.take (lessN out x), a < x := fun a ha => by
      obtain ⟨q, hq, rfl⟩ := List.getElem_of_mem ha
      rw [List.length_take] at hq
      have := lessN_lt out x q (by omega)
      rw [List.getD_eq_getElem?_getD, List.getElem?_eq_getElem (show q < out.length by omega)] at this
      rw [List.getElem_take]
      exact this
    have hhi : ∀ b ∈ out.drop (lessN out x), x < b := fun b hb => by
      obtain ⟨d, hd, rfl⟩ := List.getElem_of_mem hb
      simp at hd
      have hql : lessN out x < out.length := by omega
      have h1 := lessN_at out x hql
      rw [List.getD_eq_getElem?_getD, List.getElem?_eq_getElem hql] at h1
      have h2 : out[lessN out x] ≠ x := fun e => he (by rw [List.getElem?_eq_getElem hql, e])
      have h1' : x ≤ out[lessN out x] := h1
      rw [List.getElem_drop]
      by_cases hd0 : d = 0
      · subst hd0
        simp only [Nat.add_zero]
        omega
      · have := (List.pairwise_iff_getElem.1 h) (lessN out x) (lessN out x + d) hql (by omega) (by omega)
        omega
    refine ⟨?_, fun y => ?_⟩
    · rw [List.append_assoc, List.pairwise_append]
      have hsplit : (out.take (lessN out x) ++ out.drop (lessN out x)).Pairwise (· < ·) := by rwa [List.take_append_drop]
      rw [List.pairwise_append] at hsplit
      refine ⟨hsplit.1, ?_, ?_⟩
      · rw [List.singleton_append, List.pairwise_cons]
        exact ⟨hhi, hsplit.2.1⟩
      · intro a ha b hb
        rcases List.mem_append.1 hb with hb | hb
        · simp at hb; subst hb; exact hlo a ha
        · exact hsplit.2.2 a ha b hb
    · have : y ∈ out ↔ y ∈ out.take (lessN out x) ∨ y ∈ out.drop (lessN out x) := by
        conv => lhs; rw [← List.take_append_drop (lessN out x) out]
        exact List.mem_append
      rw [this]
      simp only [List.mem_append, List.mem_singleton]
      constructor
      · rintro ((h1 | h1) | h1)
        · exact .inl (.inl h1)
        · exact .inr h1
        · exact .inl (.inr h1)
      · rintro ((h1 | h1) | h1)
        · exact .inl (.inl h1)
        · exact .inr h1
        · exact .inl (.inr h1)

theorem sortL_spec (l : List Int) : (sortL l).Pairwise (· < ·) ∧ ∀ y, y ∈ sortL l ↔ y ∈ l := by
  have key : ∀ (l out : List Int), out.Pairwise (· < ·) → (l.foldl insL out).Pairwise (· < ·) ∧ ∀ y, y ∈ l.foldl insL out ↔ y ∈ out ∨ y ∈ l := by
    intro l
    induction l with
    | nil => intro out h; exact ⟨h, fun y => by simp⟩
    | cons a t ih =>
      intro out h
      obtain ⟨h1, h2⟩ := insL_spec out a h
      obtain ⟨h3, h4⟩ := ih _ h1
      refine ⟨h3, fun y => ?_⟩
      rw [List.foldl_cons, h4, h2]
      simp only [List.mem_cons]
      constructor
      · rintro ((h5 | h5) | h5)
        · exact .inl h5
        · exact .inr (.inl h5)
        · exact .inr (.inr h5)
      · rintro (h5 | h5 | h5)
        · exact .inl (.inl h5)
        · exact .inl (.inr h5)
        · exact .inr h5
  have := key l [] List.Pairwise.nil
  refine ⟨this.1, fun y => ?_⟩
  have h := this.2 y
  simpa [sortL] using h
end Go.Proofs.YtneeljhjfmcdoaaDoor
