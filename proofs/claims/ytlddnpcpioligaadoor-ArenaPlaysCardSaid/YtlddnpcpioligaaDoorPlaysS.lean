/- The walk of ArenaPlays: small facts. -/
import Derived.Test.YtlddnpcpioligaaDoorPlaysW
namespace Go.Proofs.YtlddnpcpioligaaDoor
open Go.RowKit

/-- The mirror: a row of the law's own that holds the same words. -/
def MirAt (w : World) (r : Nat) (xs : List Int) : Prop := w.heap[r]? = some (.cells (icells xs) 2)

theorem clearL_len (L : List Int) (fr to : Int) : (clearL L fr to).length = L.length := by
  unfold clearL
  by_cases c : ((min to (L.length : Int)) - (max fr 0)).toNat = 0
  · rw [c]; simp [splice]
  · exact length_splice _ _ _ (by rw [List.length_replicate]; omega)
theorem splice_snoc (L cs : List Int) (o : Nat) (x : Int) (h : o + cs.length < L.length) : (splice L o cs).set (o + cs.length) x = splice L o (cs ++ [x]) := by
  unfold splice
  rw [List.set_append_right _ _ (by simp; omega)]
  have e1 : (L.take o).length = o := by simp; omega
  rw [e1, Nat.add_sub_cancel_left, List.set_append_right _ _ (by omega), Nat.sub_self]
  rw [List.drop_eq_getElem_cons h]
  simp [Nat.add_assoc]
theorem take_drop_snoc (L : List Int) (o k : Nat) (h : o + k < L.length) : (L.drop o).take (k + 1) = (L.drop o).take k ++ [L.getD (o + k) 0] := by
  rw [List.take_succ_eq_append_getElem (by simp; omega), List.getElem_drop]
  simp [List.getD_eq_getElem?_getD, List.getElem?_eq_getElem h]
theorem load_is (b g : Nat) (xs : List Int) (i x : Int) (w : World) (h : ArAt w b g xs) (h0 : 0 ≤ i) (h1 : i < xs.length) (hx : xs.getD i.toNat 0 = x) :
    Calls Tryd.prog 15 #[.pointer (some ⟨b, 0, none⟩), .int .i64 i] w fun e w' => e = .returned (.tuple #[.int .i64 x, .bool true]) ∧ w = w' := by
  subst hx
  exact load_in b g xs i w h h0 h1

end Go.Proofs.YtlddnpcpioligaaDoor
