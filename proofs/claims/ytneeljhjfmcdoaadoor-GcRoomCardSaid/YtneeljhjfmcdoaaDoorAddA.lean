/- bits.Set.Add, whatever the number. -/
import Derived.Test.YtneeljhjfmcdoaaDoorBits
namespace Go.Proofs.YtneeljhjfmcdoaaDoor
open Go.RowKit

/-- Put a number into a set, whatever it is. -/
theorem add_any (b g n : Nat) (i : Int) (ws : List Nat) (w : World) (h : SetAt w b g n ws) :
    Calls Tryd.prog 39 #[.pointer (some ⟨b, 0, none⟩), .int .i64 i] w fun e w' => ∃ (r : Bool) (ws' : List Nat), e = .returned (.bool r) ∧ SetAt w' b g n ws' ∧ (∀ p, bhas ws' p = (bhas ws p || (decide (p < n) && decide (i = (p : Int))))) ∧ Upd [g] w w' := by
  by_cases h0 : i < 0 ∨ (n : Int) ≤ i
  · refine (add_out b g n i ws w h h0).mono ?_
    rintro e w' ⟨rfl, rfl⟩
    refine ⟨_, ws, rfl, h, fun p => ?_, Upd.refl _ _⟩
    by_cases hp : p < n
    · rw [decide_eq_false (by omega : ¬ i = (p : Int))]; simp
    · simp [hp]
  · obtain ⟨k, rfl⟩ := Int.eq_ofNat_of_zero_le (show 0 ≤ i by omega)
    have hk : k < n := by omega
    cases hh : bhas ws k
    · refine (add_new b g n k ws w h hk hh).mono ?_
      rintro e w' ⟨rfl, h1, h2⟩
      refine ⟨_, _, rfl, h1, fun p => ?_, h2⟩
      rw [badd_get ws k p (by have := h.2.2.2.1; omega)]
      by_cases e : k = p
      · subst e; simp [hk]
      · rw [decide_eq_false e, decide_eq_false (by omega : ¬ (k : Int) = (p : Int))]; simp
    · refine (add_old b g n k ws w h hk hh).mono ?_
      rintro e w' ⟨rfl, rfl⟩
      refine ⟨_, ws, rfl, h, fun p => ?_, Upd.refl _ _⟩
      by_cases e : k = p
      · subst e; simp [hh]
      · rw [decide_eq_false (by omega : ¬ (k : Int) = (p : Int))]; simp

end Go.Proofs.YtneeljhjfmcdoaaDoor
