/- The look at a method, plain: its rounds end; what holds in its midst. -/
import Derived.Test.YtjndigfmemdmjaaDoorVerL
namespace Go.Proofs.YtjndigfmemdmjaaDoor

theorem pick_le (s : Lk) (n : Nat) : s.pick n ≤ n := by
  unfold Lk.pick
  cases h : (List.range n).find? (fun i => s.seen.getD i false && !s.done.getD i false) with
  | none => simp
  | some i =>
    have := List.mem_of_find?_eq_some h
    rw [List.mem_range] at this
    simp; omega
theorem pick_spec (s : Lk) (n : Nat) (h : s.pick n < n) : s.seen.getD (s.pick n) false = true ∧ s.done.getD (s.pick n) false = false ∧ ∀ j, j < s.pick n → (s.seen.getD j false && !s.done.getD j false) = false := by
  unfold Lk.pick at h ⊢
  cases hf : (List.range n).find? (fun i => s.seen.getD i false && !s.done.getD i false) with
  | none => rw [hf] at h; simp at h
  | some i =>
    have h1 := List.find?_some hf
    rw [Bool.and_eq_true] at h1
    simp only [Option.getD_some]
    refine ⟨h1.1, by simpa using h1.2, fun j hj => ?_⟩
    rw [List.find?_range_eq_some] at hf
    have := hf.2.2 j hj
    cases hb : (s.seen.getD j false && !s.done.getD j false) with
    | false => rfl
    | true => rw [hb] at this; simp at this
theorem pick_end (s : Lk) (n : Nat) (h : s.pick n = n) (j : Nat) (hj : j < n) : (s.seen.getD j false && !s.done.getD j false) = false := by
  unfold Lk.pick at h
  cases hf : (List.range n).find? (fun i => s.seen.getD i false && !s.done.getD i false) with
  | none =>
    rw [List.find?_eq_none] at hf
    have := hf j (List.mem_range.2 hj)
    simpa using this
  | some i =>
    have := List.mem_of_find?_eq_some hf
    rw [List.mem_range] at this
    rw [hf] at h
    simp at h
    omega
/-- How many are done. -/
def Lk.cnt (s : Lk) : Nat := s.done.count true
theorem count_set_true (l : List Bool) (i : Nat) (hi : i < l.length) (h : l.getD i false = false) : (l.set i true).count true = l.count true + 1 := by
  induction l generalizing i with
  | nil => simp at hi
  | cons a t ih =>
    cases i with
    | zero =>
      have h1 : a = false := by simpa using h
      subst h1
      simp
    | succ i =>
      have := ih i (by simpa using hi) (by simpa using h)
      simp only [List.set_cons_succ, List.count_cons]
      omega
theorem to_keep {n : Nat} {s s' : Lk} {k : Int} {t : List UInt8} (h : Lk.to n s k t = .ok s') : s'.done = s.done ∧ s'.most = s.most ∧ s'.seen.length = s.seen.length ∧ s'.stk.length = s.stk.length := by
  unfold Lk.to at h
  split at h
  · cases h
  · split at h
    · cases h; simp
    · split at h
      · cases h
      · cases h; simp
theorem tos_keep {n : Nat} {t : List UInt8} : ∀ {l : List Int} {s s' : Lk}, l.foldlM (fun s k => Lk.to n s k t) s = .ok s' → s'.done = s.done ∧ s'.most = s.most ∧ s'.seen.length = s.seen.length ∧ s'.stk.length = s.stk.length
  | [], s, s', h => by cases h; simp
  | k :: l, s, s', h => by
    rw [List.foldlM_cons] at h
    cases h1 : Lk.to n s k t with
    | error e => rw [h1] at h; cases h
    | ok s1 =>
      rw [h1] at h
      have h2 := to_keep h1
      have h3 := tos_keep (show l.foldlM (fun s k => Lk.to n s k t) s1 = .ok s' from h)
      exact ⟨h3.1.trans h2.1, h3.2.1.trans h2.2.1, h3.2.2.1.trans h2.2.2.1, h3.2.2.2.trans h2.2.2.2⟩

end Go.Proofs.YtjndigfmemdmjaaDoor
