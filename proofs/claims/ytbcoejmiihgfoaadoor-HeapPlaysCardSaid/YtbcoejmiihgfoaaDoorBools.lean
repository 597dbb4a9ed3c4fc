/- Rows of booleans. -/
import Derived.Test.YtbcoejmiihgfoaaDoorOwnNe
namespace Go.Proofs.YtbcoejmiihgfoaaDoor
open Go.RowKit

theorem Tryd.infoBool : (Tryd.prog.info? 4).map (fun i => (i.zero, i.size, i.bytes)) = some (some (.bool false), 1, 1) := by kernel_rfl

/-- Booleans as cells. -/
def bcells (bs : List Bool) : Array Value := (bs.map Value.bool).toArray
theorem bcells_get (bs : List Bool) (i : Nat) (h : i < bs.length) : (bcells bs)[i]? = some (.bool (bs.getD i false)) := by
 simp [bcells, h]
theorem bcells_set (bs : List Bool) (i : Nat) (v : Bool) : (bcells bs).setIfInBounds i (.bool v) = bcells (bs.set i v) := by
 simp [bcells, List.map_set]
theorem bcells_size (bs : List Bool) : (bcells bs).size = bs.length := by simp [bcells]

theorem madeCells_false (n : Nat) : madeCells (Value.bool false).cells n = bcells (List.replicate n false) := by
 unfold madeCells bcells
 apply Array.ext_getElem?
 intro i
 simp only [List.map_replicate]
 by_cases h : i < n
 ·simp [h, Value.cells, Nat.mod_one]
 ·simp [h]
theorem make_bools (w : World) (m : Nat) (h : m ≤ 1000000) : (Instr.makeSlice 42 (.int .i64 (m : Int)) (.int .i64 (m : Int))).run Tryd.prog w = .ok (.slice (some ⟨w.heap.size, 0, none⟩) m m) (w.alloc (.cells (bcells (List.replicate m false)) 4)) := by
 obtain ⟨i0, hi, hz0, hz1, hz2⟩ := info_parts Tryd.infoBool
 have hmk := run_make (P := Tryd.prog) w 42 4 i0 (.bool false) Tryd.underlying42 hi hz0 .i64 .i64 (m : Int) (m : Int) (by omega) (by omega) (by rw [hz2]; omega) (by omega)
 rw [hz1, Nat.mul_one] at hmk
 simpa [madeCells_false] using hmk

/-- A row that is filled from its beginning. -/
def fillB (f : Nat → Bool) (n i : Nat) : List Bool := (List.range n).map fun k => if k < i then f k else false
theorem fillB_len (f : Nat → Bool) (n i : Nat) : (fillB f n i).length = n := by simp [fillB]
theorem fillB_zero (f : Nat → Bool) (n : Nat) : fillB f n 0 = List.replicate n false := by
 unfold fillB
 apply List.ext_getElem
 ·simp
 ·intro i h1 h2; simp
theorem fillB_step (f : Nat → Bool) (n i : Nat) (_h : i < n) : (fillB f n i).set i (f i) = fillB f n (i + 1) := by
 unfold fillB
 apply List.ext_getElem
 ·simp
 ·intro k h1 h2
  simp only [List.getElem_set, List.getElem_map, List.getElem_range]
  by_cases e : i = k
  ·subst e; simp
  ·rw [if_neg e]
   by_cases e2 : k < i
   ·rw [if_pos e2, if_pos (by omega)]
   ·rw [if_neg e2, if_neg (by omega)]
theorem fillB_get (f : Nat → Bool) (n i k : Nat) (h : k < n) : (fillB f n i).getD k false = if k < i then f k else false := by
 unfold fillB
 simp [List.getD_eq_getElem?_getD, h]

end Go.Proofs.YtbcoejmiihgfoaaDoor
