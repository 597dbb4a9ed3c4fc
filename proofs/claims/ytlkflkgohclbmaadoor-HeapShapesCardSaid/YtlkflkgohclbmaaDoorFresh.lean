/- HeapShapes: the mirror's new values, row by row. No program in sight. -/
import Derived.Test.YtlkflkgohclbmaaDoorShS
namespace Go.Proofs.YtlkflkgohclbmaaDoor
open Go.RowKit

/-- The values behind j rounds. -/
def freshJ (cs : List ByteArray) (c : Int) (m j : Nat) : List Int := (fresh cs c m).take j ++ List.replicate (m - j) 0

theorem freshJ_zero (cs : List ByteArray) (c : Int) (m : Nat) : freshJ cs c m 0 = List.replicate m 0 := by simp [freshJ]
theorem freshJ_all (cs : List ByteArray) (c : Int) (m : Nat) : freshJ cs c m m = fresh cs c m := by
  unfold freshJ
  rw [Nat.sub_self, List.take_of_length_le (by rw [fresh_len]; exact Nat.le_refl _)]
  simp
theorem freshJ_len (cs : List ByteArray) (c : Int) (m j : Nat) (h : j ≤ m) : (freshJ cs c m j).length = m := by
  unfold freshJ
  rw [List.length_append, List.length_take, fresh_len, List.length_replicate]; omega
theorem freshJ_get (cs : List ByteArray) (c : Int) (m j i : Nat) (h : j ≤ m) (hi : i < m) : (freshJ cs c m j).getD i 0 = if i < j then (if letR cs c i = true then -1 else 0) else 0 := by
  unfold freshJ
  have hl : ((fresh cs c m).take j).length = j := by rw [List.length_take, fresh_len]; omega
  split
  · rename_i hlt
    rw [List.getD_eq_getElem?_getD, List.getElem?_append_left (by omega), List.getElem?_take, if_pos hlt, ← List.getD_eq_getElem?_getD]
    exact fresh_get cs c m i hi
  · rw [List.getD_eq_getElem?_getD, List.getElem?_append_right (by omega), hl, List.getElem?_replicate, if_pos (by omega)]; rfl
theorem freshJ_no (cs : List ByteArray) (c : Int) (m j : Nat) (h : j < m) (hr : letR cs c j = false) : freshJ cs c m (j + 1) = freshJ cs c m j := by
  apply List.ext_getElem
  · rw [freshJ_len _ _ _ _ (by omega), freshJ_len _ _ _ _ (by omega)]
  · intro i h1 h2
    have e1 := freshJ_get cs c m (j + 1) i (by omega) (by rw [freshJ_len _ _ _ _ (by omega)] at h1; exact h1)
    have e2 := freshJ_get cs c m j i (by omega) (by rw [freshJ_len _ _ _ _ (by omega)] at h2; exact h2)
    rw [List.getD_eq_getElem?_getD, List.getElem?_eq_getElem h1, Option.getD_some] at e1
    rw [List.getD_eq_getElem?_getD, List.getElem?_eq_getElem h2, Option.getD_some] at e2
    rw [e1, e2]
    by_cases e : i = j
    · subst e
      rw [hr]; simp
    · by_cases e' : i < j
      · rw [if_pos e', if_pos (by omega)]
      · rw [if_neg e', if_neg (by omega)]
theorem freshJ_yes (cs : List ByteArray) (c : Int) (m j : Nat) (h : j < m) (hr : letR cs c j = true) : (freshJ cs c m j).set j (-1) = freshJ cs c m (j + 1) := by
  apply List.ext_getElem
  · rw [List.length_set, freshJ_len _ _ _ _ (by omega), freshJ_len _ _ _ _ (by omega)]
  · intro i h1 h2
    rw [List.length_set] at h1
    have e1 := freshJ_get cs c m j i (by omega) (by rw [freshJ_len _ _ _ _ (by omega)] at h1; exact h1)
    have e2 := freshJ_get cs c m (j + 1) i (by omega) (by rw [freshJ_len _ _ _ _ (by omega)] at h2; exact h2)
    rw [List.getD_eq_getElem?_getD, List.getElem?_eq_getElem h1, Option.getD_some] at e1
    rw [List.getD_eq_getElem?_getD, List.getElem?_eq_getElem h2, Option.getD_some] at e2
    rw [List.getElem_set, e2]
    by_cases e : i = j
    · subst e
      rw [if_pos rfl, if_pos (by omega), if_pos hr]
    · rw [if_neg (fun e' => e e'.symm), e1]
      by_cases e' : i < j
      · rw [if_pos e', if_pos (show i < j + 1 by omega)]
      · rw [if_neg e', if_neg (show ¬ i < j + 1 by omega)]

end Go.Proofs.YtlkflkgohclbmaaDoor
