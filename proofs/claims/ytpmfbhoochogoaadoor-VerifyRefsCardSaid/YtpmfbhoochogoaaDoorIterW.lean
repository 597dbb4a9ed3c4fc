/- A range over a string whose iterator is not the heap's last block. -/
import Derived.Test.YtpmfbhoochogoaaDoorBs
import Derived.Test.YtpmfbhoochogoaaDoorLib
import Derived.Test.YtpmfbhoochogoaaDoorRows
import Derived.Laws.RangeString
namespace Go.Proofs.YtpmfbhoochogoaaDoor
open Go.RowKit

def iterAt (w : World) (b : Nat) (s : ByteArray) (pos : Nat) : World := { w with heap := w.heap.setIfInBounds b (.stringIter s pos) }
theorem iterAt_heap {w : World} {b : Nat} {s s' : ByteArray} {pos pos' : Nat} (h : w.heap[b]? = some (.stringIter s pos)) : (iterAt w b s' pos').heap[b]? = some (.stringIter s' pos') := by
  show (w.heap.setIfInBounds b (.stringIter s' pos'))[b]? = _
  have hb : b < w.heap.size := by
    rcases Nat.lt_or_ge b w.heap.size with h2 | h2
    · exact h2
    · rw [Array.getElem?_eq_none h2] at h; cases h
  simp [hb]
theorem iterAt_upd (w : World) (b : Nat) (s : ByteArray) (pos : Nat) : Upd [b] w (iterAt w b s pos) := by
  refine ⟨rfl, rfl, rfl, by show w.heap.size ≤ (w.heap.setIfInBounds b _).size; simp, fun k _ hk => ?_⟩
  show (w.heap.setIfInBounds b _)[k]? = _
  rw [Array.getElem?_setIfInBounds_ne]
  rintro rfl
  exact hk (by simp)
theorem next_at (w : World) (b : Nat) (s : ByteArray) (pos : Nat) (ty : TypeId) (hw : w.heap[b]? = some (.stringIter s pos)) (h : pos < s.size) (ha : (s[pos]'h).toNat < 128) :
    (Instr.next (.pointer (some ⟨b, 0, none⟩)) true ty).run Tryd.prog w = .ok (.tuple #[.bool true, .int .i64 pos, .int .i32 (s[pos]'h).toNat]) (iterAt w b s (pos + 1)) := by
  simp only [Instr.next, getObj, setObj, Sem.run_bind, Sem.run, hw, Result.andThen, h, if_true, decode_ascii s pos h ha]
  simp [goInt, iterAt]
theorem next_at_end (w : World) (b : Nat) (s : ByteArray) (pos : Nat) (ty : TypeId) (hw : w.heap[b]? = some (.stringIter s pos)) (h : ¬ pos < s.size) :
    (Instr.next (.pointer (some ⟨b, 0, none⟩)) true ty).run Tryd.prog w = .ok (.tuple #[.bool false]) w := by
  simp [Instr.next, getObj, Sem.run, hw, h]
end Go.Proofs.YtpmfbhoochogoaaDoor
