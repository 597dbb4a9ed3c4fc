/- flow.clean: the walk. -/
import Derived.Test.YtjjkliifpdcliaaDoorLists
import Derived.Test.YtjjkliifpdcliaaDoorCleanL
namespace Go.Proofs.YtjjkliifpdcliaaDoor
open Go.RowKit

theorem Tryd.infoRow : (Tryd.prog.info? 27).map (fun i => (i.zero, i.size, i.bytes)) = some (some (.slice none 0 0), 1, 24) := by kernel_rfl

theorem madeCells_nil (n : Nat) : madeCells (Value.slice none 0 0).cells n = (List.replicate n (Value.slice none 0 0)).toArray := by
  unfold madeCells
  apply Array.ext_getElem?
  intro i
  by_cases h : i < n
  · simp [h, Value.cells, Nat.mod_one]
  · simp [h]

theorem make_rows (w : World) (m : Nat) (h : m ≤ 1000000) : (Instr.makeSlice 22 (.int .i64 (m : Int)) (.int .i64 (m : Int))).run Tryd.prog w = .ok (.slice (some ⟨w.heap.size, 0, none⟩) m m) (w.alloc (.cells (List.replicate m (Value.slice none 0 0)).toArray 27)) := by
  obtain ⟨i0, hi, hz0, hz1, hz2⟩ := info_parts Tryd.infoRow
  have hmk := run_make (P := Tryd.prog) w 22 27 i0 (.slice none 0 0) Tryd.underlying22 hi hz0 .i64 .i64 (m : Int) (m : Int) (by omega) (by omega) (by rw [hz2]; omega) (by omega)
  rw [hz1, Nat.mul_one] at hmk
  simpa [madeCells_nil] using hmk
theorem make_intsN (w : World) (m : Nat) (h : m ≤ 1000000) : (Instr.makeSlice 27 (.int .i64 (m : Int)) (.int .i64 (m : Int))).run Tryd.prog w = .ok (.slice (some ⟨w.heap.size, 0, none⟩) m m) (w.alloc (.cells (icells (List.replicate m 0)) 3)) := by
  obtain ⟨i0, hi, hz0, hz1, hz2⟩ := info_parts Tryd.infoInt
  have hmk := run_make (P := Tryd.prog) w 27 3 i0 (.int .i64 0) Tryd.underlying27 hi hz0 .i64 .i64 (m : Int) (m : Int) (by omega) (by omega) (by rw [hz2]; omega) (by omega)
  rw [hz1, Nat.mul_one] at hmk
  simpa [madeCells_zero] using hmk

/-- The cleaned rows below i, and row i so far. -/
def cst (g : List (List Int)) (i : Nat) (acc : List Nat) : List (List Nat) := (cleanG g).take i ++ acc :: List.replicate (g.length - i - 1) []
theorem cst_len (g : List (List Int)) (i : Nat) (acc : List Nat) (h : i < g.length) : (cst g i acc).length = g.length := by
  unfold cst
  simp [cleanG_len]
  omega
theorem cst_get (g : List (List Int)) (i : Nat) (acc : List Nat) (h : i < g.length) : (cst g i acc).getD i [] = acc := by
  unfold cst
  have hl : ((cleanG g).take i).length = i := by simp [cleanG_len]; omega
  rw [List.getD_eq_getElem?_getD, List.getElem?_append_right (by omega), hl, Nat.sub_self]; rfl
theorem cst_set (g : List (List Int)) (i : Nat) (acc acc' : List Nat) (h : i < g.length) : (cst g i acc).set i acc' = cst g i acc' := by
  unfold cst
  have hl : ((cleanG g).take i).length = i := by simp [cleanG_len]; omega
  rw [List.set_append_right _ _ (by omega), hl, Nat.sub_self]; rfl
theorem cst_zero (g : List (List Int)) (h : 0 < g.length) : cst g 0 [] = List.replicate g.length [] := by
  unfold cst
  obtain ⟨m, hm⟩ : ∃ m, g.length = m + 1 := ⟨g.length - 1, by omega⟩
  rw [hm]; rfl
theorem cst_next (g : List (List Int)) (i : Nat) (h : i + 1 < g.length) : cst g i (crow g.length (g.getD i [])) = cst g (i + 1) [] := by
  unfold cst
  have e : (cleanG g).take (i + 1) = (cleanG g).take i ++ [crow g.length (g.getD i [])] := by
    rw [List.take_succ_eq_append_getElem (by rw [cleanG_len]; omega)]
    congr 2
    have := cleanG_get g i (by omega)
    rw [List.getD_eq_getElem?_getD, List.getElem?_eq_getElem (by rw [cleanG_len]; omega)] at this
    simpa using this
  rw [e, List.append_assoc]
  congr 1
  obtain ⟨m, hm⟩ : ∃ m, g.length - i - 1 = m + 1 := ⟨g.length - i - 2, by omega⟩
  rw [hm, show g.length - (i + 1) - 1 = m by omega]; rfl
theorem cst_last (g : List (List Int)) (i : Nat) (h : i + 1 = g.length) : cst g i (crow g.length (g.getD i [])) = cleanG g := by
  unfold cst
  rw [show g.length - i - 1 = 0 by omega]
  have e : (cleanG g) = (cleanG g).take i ++ [crow g.length (g.getD i [])] := by
    have h1 := List.take_succ_eq_append_getElem (l := cleanG g) (i := i) (by rw [cleanG_len]; omega)
    have h2 : (cleanG g)[i]'(by rw [cleanG_len]; omega) = crow g.length (g.getD i []) := by
      have := cleanG_get g i (by omega)
      rw [List.getD_eq_getElem?_getD, List.getElem?_eq_getElem (by rw [cleanG_len]; omega)] at this
      simpa using this
    rw [List.take_of_length_le (by rw [cleanG_len]; omega), h2] at h1
    exact h1
  exact e.symm
/-- The state at a row's beginning, the end too. -/
def cat (g : List (List Int)) (i : Nat) : List (List Nat) := if i < g.length then cst g i [] else cleanG g

/-- Who was named last by which row. -/
def LastOk (n i : Nat) (acc : List Nat) (la : List Int) : Prop := la.length = n ∧ ∀ k, k < n → la.getD k 0 ≤ (i : Int) + 1 ∧ 0 ≤ la.getD k 0 ∧ (la.getD k 0 = (i : Int) + 1 ↔ k ∈ acc)
theorem LastOk.start (n : Nat) : LastOk n 0 [] (List.replicate n 0) := by
  refine ⟨by simp, fun k hk => ?_⟩
  rw [List.getD_eq_getElem?_getD, List.getElem?_replicate, if_pos hk]
  simp
theorem LastOk.next {n i : Nat} {acc : List Nat} {la : List Int} (h : LastOk n i acc la) : LastOk n (i + 1) [] la := by
  refine ⟨h.1, fun k hk => ?_⟩
  obtain ⟨h1, h2, h3⟩ := h.2 k hk
  exact ⟨by omega, h2, (fun h => by omega), (fun h => by cases h)⟩
theorem LastOk.put {n i k : Nat} {acc : List Nat} {la : List Int} (h : LastOk n i acc la) (hk : k < n) : LastOk n i (acc ++ [k]) (la.set k ((i : Int) + 1)) := by
  have hl := h.1
  refine ⟨by simp [h.1], fun q hq => ?_⟩
  obtain ⟨h1, h2, h3⟩ := h.2 q hq
  rw [getD_set_if]
  by_cases e : k = q
  · subst e
    rw [if_pos ⟨rfl, by omega⟩]
    simp
    omega
  · rw [if_neg (fun h => e h.1)]
    refine ⟨h1, h2, ?_⟩
    rw [h3]
    simp
    exact fun h => absurd h.symm e

end Go.Proofs.YtjjkliifpdcliaaDoor
