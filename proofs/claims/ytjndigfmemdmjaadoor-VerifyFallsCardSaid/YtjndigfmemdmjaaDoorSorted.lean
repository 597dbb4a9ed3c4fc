/- overdriveref.Sorted: what it computes; its walk. -/
import Derived.Test.YtjndigfmemdmjaaDoorInts
namespace Go.Proofs.YtjndigfmemdmjaaDoor
open Go.RowKit

/-- How many at the front are less. -/
def lessN (out : List Int) (x : Int) : Nat := (out.takeWhile fun y => decide (y < x)).length
/-- A number is laid into a rising list. -/
def insL (out : List Int) (x : Int) : List Int := if out[lessN out x]? = some x then out else out.take (lessN out x) ++ [x] ++ out.drop (lessN out x)
def sortL (l : List Int) : List Int := l.foldl insL []

theorem lessN_le (out : List Int) (x : Int) : lessN out x ≤ out.length := by
  unfold lessN
  induction out with
  | nil => simp
  | cons a t ih => rw [List.takeWhile_cons]; split <;> simp; omega

theorem lessN_lt (out : List Int) (x : Int) (k : Nat) (h : k < lessN out x) : out.getD k 0 < x := by
  unfold lessN at h
  induction out generalizing k with
  | nil => simp at h
  | cons a t ih =>
    rw [List.takeWhile_cons] at h
    split at h
    · rename_i ha
      cases k with
      | zero => simpa using ha
      | succ k => simp at h ⊢; simpa using ih k h
    · simp at h

theorem lessN_at (out : List Int) (x : Int) (h : lessN out x < out.length) : x ≤ out.getD (lessN out x) 0 := by
  unfold lessN at h ⊢
  induction out with
  | nil => simp at h
  | cons a t ih =>
    rw [List.takeWhile_cons] at h ⊢
    split at h
    · rename_i ha
      rw [if_pos ha]
      simp at h ⊢
      simpa using ih h
    · rename_i ha
      rw [if_neg ha]
      simp at ha ⊢
      exact ha

theorem sortL_take (l : List Int) (k : Nat) (h : k < l.length) : sortL (l.take (k + 1)) = insL (sortL (l.take k)) (l.getD k 0) := by
  have : l.take (k + 1) = l.take k ++ [l.getD k 0] := by
    rw [List.take_add_one, List.getElem?_eq_getElem h, List.getD_eq_getElem?_getD, List.getElem?_eq_getElem h]; rfl
  rw [this]
  simp [sortL]

theorem insL_len (out : List Int) (x : Int) : (insL out x).length ≤ out.length + 1 := by
  unfold insL
  have := lessN_le out x
  split
  · omega
  · simp; omega

theorem sortL_len (l : List Int) : (sortL l).length ≤ l.length := by
  have h : ∀ (l out : List Int), (l.foldl insL out).length ≤ out.length + l.length := by
    intro l
    induction l with
    | nil => intro out; simp
    | cons a t ih => intro out; rw [List.foldl_cons]; have h1 := ih (insL out a); have h2 := insL_len out a; simp; omega
  simpa [sortL] using h l []

end Go.Proofs.YtjndigfmemdmjaaDoor
