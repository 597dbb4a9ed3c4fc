/- Objects that a slice value reads as. -/
import Derived.Test.YtbcoejmiihgfoaaDoorWide
namespace Go.Proofs.YtbcoejmiihgfoaaDoor
open Go.RowKit

/-- A slice value reads as these objects (class and values). -/
def ObjsV (w : World) (uv : Value) (os : List (Int × List Int)) : Prop :=
 ∃ p cap, uv = .slice p os.length cap ∧ ∀ k, k < os.length → ∃ ub v b, p = some ⟨ub, 0, none⟩ ∧ w.cell? ⟨ub, 2 * k, none⟩ = some (.int .i64 (os.getD k (0, [])).1) ∧ w.cell? ⟨ub, 2 * k + 1, none⟩ = some v ∧ IntsV w v b (os.getD k (0, [])).2

theorem ObjsV.upd {w w' : World} {uv : Value} {os : List (Int × List Int)} (h : ObjsV w uv os) (hu : Upd [] w w') : ObjsV w' uv os := by
 obtain ⟨p, cap, h1, h2⟩ := h
 refine ⟨p, cap, h1, fun k hk => ?_⟩
 obtain ⟨ub, v, b, h3, h4, h5, h6⟩ := h2 k hk
 exact ⟨ub, v, b, h3, hu.cell h4 (by simp), hu.cell h5 (by simp), h6.upd hu (.inr (by simp))⟩

theorem OutSt.objsV {w : World} {B : Nat} {L : HL} {cv mv : Value} {S : Hp} {ov : Value} {od : List Int} {av : Value} {ats : List Int} {uv : Value} {ps : List OP} {os : List (Int × List Int)} (h : OutSt w B L cv mv S ov od av ats uv ps) (hos : ps.map OP.o = os) : ObjsV w uv os := by
 subst hos
 have hl : (ps.map OP.o).length = ps.length := by simp
 by_cases h0 : 0 < ps.length
 ·obtain ⟨ub, cap, h1, h2⟩ := h.obj1 h0
  refine ⟨_, cap, by rw [hl]; exact h1, fun k hk => ?_⟩
  rw [hl] at hk
  obtain ⟨c1, c2⟩ := h2 k hk
  have e : (ps.map OP.o).getD k (0, []) = (ps[k].c, ps[k].xs) := by
   rw [List.getD_eq_getElem?_getD, List.getElem?_map, List.getElem?_eq_getElem hk]; rfl
  rw [e]
  exact ⟨ub, _, _, rfl, c1, c2, (h.vals _ (List.getElem_mem hk)).1⟩
 ·have hps : ps = [] := List.eq_nil_of_length_eq_zero (by omega)
  subst hps
  rcases h.out.2 with ⟨h1, _⟩ | ⟨g, cap, cur, h1, _⟩
  ·exact ⟨none, 0, h1, by simp⟩
  ·exact ⟨_, _, h1, by simp⟩

/-- The numbers that Shape answers. -/
theorem OutSt.nums {w : World} {B : Nat} {L : HL} {cv mv : Value} {S : Hp} {ov : Value} {od : List Int} {av : Value} {ats : List Int} {uv : Value} {ps : List OP} (h : OutSt w B L cv mv S ov od av ats uv ps) : ∃ b, IntsV w av b ats := by
 obtain ⟨b, h1, _⟩ := IntsV.of_row h.ats
 exact ⟨b, h1⟩

end Go.Proofs.YtbcoejmiihgfoaaDoor
