/- Contracts of a space that lies alone in a block. -/
import Derived.Test.YtlddnpcpioligaaDoorAl1
import Derived.Test.YtlddnpcpioligaaDoorFrame
namespace Go.Proofs.YtlddnpcpioligaaDoor
open Go.RowKit

def SpB (w : World) (s : Nat) (fr to top : Int) : Prop := w.heap[s]? = some (.cells #[.int .i64 fr, .int .i64 to, .int .i64 top] 25)
theorem SpB.c0 {w : World} {s : Nat} {fr to top : Int} (h : SpB w s fr to top) : w.cell? ⟨s, 0, none⟩ = some (.int .i64 fr) := by rw [cell_of h]; rfl
theorem SpB.c1 {w : World} {s : Nat} {fr to top : Int} (h : SpB w s fr to top) : w.cell? ⟨s, 1, none⟩ = some (.int .i64 to) := by rw [cell_of h]; rfl
theorem SpB.c2 {w : World} {s : Nat} {fr to top : Int} (h : SpB w s fr to top) : w.cell? ⟨s, 2, none⟩ = some (.int .i64 top) := by rw [cell_of h]; rfl
theorem SpB.fz {w : World} {s : Nat} {fr to top : Int} (h : SpB w s fr to top) (i : Nat) : w.frozen? ⟨s, i, none⟩ = false := froz_of h i
theorem SpB.set {w : World} {s : Nat} {fr to top : Int} (h : SpB w s fr to top) (v : Int) : SpB (w.setCell ⟨s, 2, none⟩ (.int .i64 v)) s fr to v := by
  have := heap_setCell h 2 (.int .i64 v)
  exact this
theorem SpB.drewN {w : World} {s : Nat} {fr to top : Int} (h : SpB w s fr to top) (n : Nat) : SpB (w.drewN n) s fr to top := h

theorem takeB_yes (s : Nat) (fr to top n : Int) (w : World) (h : SpB w s fr to top) (h0 : 0 ≤ top) (h1 : top ≤ to) (h2 : to ≤ 1000000000) (hn : 1 ≤ n) (hn2 : n ≤ to - top) :
    Calls Tryd.prog 10 #[.pointer (some ⟨s, 0, none⟩), .int .i64 n] w fun e w' => e = .returned (.tuple #[.int .i64 top, .bool true]) ∧ SpB w' s fr to (top + n) ∧ Upd [s] w w' := by
  refine (take_yes s 0 to top n w h0 h1 h2 hn hn2 h.c1 h.c2 (h.fz 2)).mono ?_
  rintro e w' ⟨rfl, m, rfl⟩
  exact ⟨rfl, (h.set _).drewN _, ((Upd.refl _ _).setCell (by simp) _).drewN _⟩
theorem takeB_no (s : Nat) (fr to top n : Int) (w : World) (h : SpB w s fr to top) (h0 : 0 ≤ top) (h1 : top ≤ to) (h2 : to ≤ 1000000000) (hn : n < 1 ∨ to - top < n) :
    Calls Tryd.prog 10 #[.pointer (some ⟨s, 0, none⟩), .int .i64 n] w fun e w' => e = .returned (.tuple #[.int .i64 0, .bool false]) ∧ SpB w' s fr to top ∧ Upd [s] w w' := by
  refine (take_no s 0 to top n w h0 h1 h2 hn h.c1 h.c2).mono ?_
  rintro e w' ⟨rfl, m, rfl⟩
  exact ⟨rfl, h.drewN _, (Upd.refl _ _).drewN _⟩
theorem roomB (s : Nat) (fr to top : Int) (w : World) (h : SpB w s fr to top) (h0 : 0 ≤ top) (h1 : top ≤ to) (h2 : to ≤ 1000000000) :
    Calls Tryd.prog 9 #[.pointer (some ⟨s, 0, none⟩)] w fun e w' => e = .returned (.int .i64 (to - top)) ∧ SpB w' s fr to top ∧ Upd [s] w w' := by
  refine (room_any s 0 to top w h0 h1 h2 h.c1 h.c2).mono ?_
  rintro e w' ⟨rfl, m, rfl⟩
  exact ⟨rfl, h.drewN _, (Upd.refl _ _).drewN _⟩
theorem resetB (s : Nat) (fr to top : Int) (w : World) (h : SpB w s fr to top) :
    Calls Tryd.prog 8 #[.pointer (some ⟨s, 0, none⟩)] w fun e w' => e = .returned (.tuple #[]) ∧ SpB w' s fr to fr ∧ Upd [s] w w' := by
  refine (reset_any s 0 fr _ w h.c0 h.c2 (h.fz 2)).mono ?_
  rintro e w' ⟨rfl, rfl⟩
  exact ⟨rfl, h.set _, (Upd.refl _ _).setCell (by simp) _⟩
theorem hasB_yes (s : Nat) (fr to top i : Int) (w : World) (h : SpB w s fr to top) (h0 : fr ≤ i) (h1 : i < top) :
    Calls Tryd.prog 11 #[.pointer (some ⟨s, 0, none⟩), .int .i64 i] w fun e w' => e = .returned (.bool true) ∧ w = w' :=
  has_yes s 0 fr top i w h0 h1 h.c0 h.c2
theorem hasB_no (s : Nat) (fr to top i : Int) (w : World) (h : SpB w s fr to top) (h0 : i < fr ∨ top ≤ i) :
    Calls Tryd.prog 11 #[.pointer (some ⟨s, 0, none⟩), .int .i64 i] w fun e w' => e = .returned (.bool false) ∧ w = w' :=
  has_no s 0 fr top i w h0 h.c0 h.c2

end Go.Proofs.YtlddnpcpioligaaDoor
