/- A range over a string whose iterator is not the heap's last block. verify.Info: Refs. -/
import Derived.Test.YtopojeanbpokaaaGreatDoorVerL
import Derived.Test.YtopojeanbpokaaaGreatDoorLib
import Derived.Test.YtopojeanbpokaaaGreatDoorRows
import Derived.Laws.RangeString
import Derived.Test.YtopojeanbpokaaaGreatDoorAtW
import Derived.Test.YtopojeanbpokaaaGreatDoorOwnNe
import Derived.Test.YtopojeanbpokaaaGreatDoorOwnI
import Derived.Test.YtopojeanbpokaaaGreatDoorInts
/-! A range over a string whose iterator is not the heap's last block. -/
namespace Go.Proofs.YtopojeanbpokaaaGreatDoor
open Go.RowKit

def iterAt (w : World) (b : Nat) (s : ByteArray) (pos : Nat) : World := { w with heap := w.heap.setIfInBounds b (.stringIter s pos) }
theorem iterAt_heap {w : World} {b : Nat} {s s' : ByteArray} {pos pos' : Nat} (h : w.heap[b]? = some (.stringIter s pos)) : (iterAt w b s' pos').heap[b]? = some (.stringIter s' pos') := by
  show (w.heap.setIfInBounds b (.stringIter s' pos'))[b]? = _
  have hb : b < w.heap.size := by
    rcases Nat.lt_or_ge b w.heap.size with h2 | h2
    · exact h2
    · rw [Array.getElem?_eq_none h2] at h; cases h
  simp [hb]
theorem iterAt_upd (w : World) (b : Nat) (s : ByteArray) (pos : Nat) : Upd [b] w (iterAt w b s pos) := by
  refine ⟨rfl, rfl, rfl, by show w.heap.size ≤ (w.heap.setIfInBounds b _).size; simp, fun k _ hk => ?_⟩
  show (w.heap.setIfInBounds b _)[k]? = _
  rw [Array.getElem?_setIfInBounds_ne]
  rintro rfl
  exact hk (by simp)
theorem next_at (w : World) (b : Nat) (s : ByteArray) (pos : Nat) (ty : TypeId) (hw : w.heap[b]? = some (.stringIter s pos)) (h : pos < s.size) (ha : (s[pos]'h).toNat < 128) :
    (Instr.next (.pointer (some ⟨b, 0, none⟩)) true ty).run Tryz.prog w = .ok (.tuple #[.bool true, .int .i64 pos, .int .i32 (s[pos]'h).toNat]) (iterAt w b s (pos + 1)) := by
  simp only [Instr.next, getObj, setObj, Sem.run_bind, Sem.run, hw, Result.andThen, h, if_true, decode_ascii s pos h ha]
  simp [goInt, iterAt]
theorem next_at_end (w : World) (b : Nat) (s : ByteArray) (pos : Nat) (ty : TypeId) (hw : w.heap[b]? = some (.stringIter s pos)) (h : ¬ pos < s.size) :
    (Instr.next (.pointer (some ⟨b, 0, none⟩)) true ty).run Tryz.prog w = .ok (.tuple #[.bool false]) w := by
  simp [Instr.next, getObj, Sem.run, hw, h]
/-- The places of the letter R, from k on. -/
def refsL : List UInt8 → Nat → List Int
  | [], _ => []
  | c :: l, k => (if c = lR then [(k : Int)] else []) ++ refsL l (k + 1)
theorem refsL_append (a b : List UInt8) (k : Nat) : refsL (a ++ b) k = refsL a k ++ refsL b (k + a.length) := by
  induction a generalizing k with
  | nil => rfl
  | cons c t ih =>
    show _ ++ refsL (t ++ b) (k + 1) = (_ ++ refsL t (k + 1)) ++ _
    rw [ih (k + 1), List.append_assoc]
    congr 3
    simp only [List.length_cons]
    omega
theorem refsL_snoc (a : List UInt8) (c : UInt8) (k : Nat) : refsL (a ++ [c]) k = refsL a k ++ if c = lR then [((k + a.length : Nat) : Int)] else [] := by
  rw [refsL_append]
  congr 1
  show _ ++ refsL [] _ = _
  rw [show refsL [] (k + a.length + 1) = [] from rfl, List.append_nil]

end Go.Proofs.YtopojeanbpokaaaGreatDoor

/-! verify.Info: Refs. -/
namespace Go.Proofs.YtopojeanbpokaaaGreatDoor
open Go.RowKit

def iterPos (w : World) (b : Nat) : Nat := match w.heap[b]? with | some (.stringIter _ p) => p | _ => 0
theorem iterPos_of {w : World} {b : Nat} {s : ByteArray} {p : Nat} (h : w.heap[b]? = some (.stringIter s p)) : iterPos w b = p := by unfold iterPos; rw [h]
theorem bs_byte (l : List UInt8) (i : Nat) (h : i < (bs l).size) : (bs l)[i]'h = l.getD i 0 := by
  have hl : i < l.length := by rw [bs_size] at h; exact h
  rw [List.getD_eq_getElem?_getD, List.getElem?_eq_getElem hl]
  rfl

theorem refsL_le : ∀ (l : List UInt8) (k : Nat), (refsL l k).length ≤ l.length
  | [], _ => Nat.le_refl _
  | c :: l, k => by
    have h := refsL_le l (k + 1)
    show ((if c = lR then [(k : Int)] else []) ++ refsL l (k + 1)).length ≤ _
    rw [List.length_append, List.length_cons]
    split <;> simp <;> omega

/-- An answer that has been asked once more, and nothing else of its box. -/
structure InfoAs (w0 w : World) (ib : Nat) (p : Prg) (ss : List Lk) (n : Int) : Prop where
  at_ : InfoAt w ib p ss (n + 1)
  st : InfoStep w0 w ib n
theorem InfoAs.upd {w0 w w' : World} {ib : Nat} {p : Prg} {ss : List Lk} {n : Int} (h : InfoAs w0 w ib p ss n) (hu : Upd [] w w') : InfoAs w0 w' ib p ss n := ⟨h.at_.upd hu, fun cv mv lv hb => hu.heap (h.st cv mv lv hb) (by simp)⟩
/-- Other blocks are written. -/
theorem InfoAs.keep {w0 w w' : World} {ib : Nat} {p : Prg} {ss : List Lk} {n : Int} (h : InfoAs w0 w ib p ss n) (h0 : InfoAt w0 ib p ss n) (hu : Upd [ib] w0 w') {T : List Nat} (ht : Upd T w w') (hT : ib ∉ T) : InfoAt w' ib p ss (n + 1) :=
  h0.later hu (fun cv mv lv hb => ht.heap (h.st cv mv lv hb) hT)

end Go.Proofs.YtopojeanbpokaaaGreatDoor
