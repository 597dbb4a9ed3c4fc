/- api's errors, all of them: where they lie. -/
import Derived.Test.YtbcoejmiihgfoaaDoorSent
namespace Go.Proofs.YtbcoejmiihgfoaaDoor
open Go.RowKit Go.ChangeShapes

/-- api's errors lie where E says, all of them. -/
def SentAll (w : World) (E : Nat → Addr) : Prop := ∀ i, i < 14 → SentOne w (sGlob.getD i 0) (sText.getD i []) (E i)
theorem SentAll.upd {w w' : World} {E : Nat → Addr} (h : SentAll w E) (hu : Upd [] w w') : SentAll w' E := fun i hi => (h i hi).upd hu
theorem SentAll.some {w : World} {E : Nat → Addr} (h : SentAll w E) : SentAt w E := fun i hi => h i (by omega)
instance {w : World} {E : Nat → Addr} : Coe (SentAll w E) (SentAt w E) := ⟨SentAll.some⟩
theorem sText_inj : ∀ i, i < 14 → ∀ j, j < 14 → sText.getD i [] = sText.getD j [] → i = j := by decide

theorem SentAll.inj {w : World} {E : Nat → Addr} (h : SentAll w E) {i j : Nat} (hi : i < 14) (hj : j < 14) (he : E i = E j) : i = j := by
 obtain ⟨_, _, s, h1, h2⟩ := h i hi
 obtain ⟨_, _, s', h3, h4⟩ := h j hj
 rw [he, h3] at h1
 have hs : s' = s := by simpa using h1
 subst hs
 exact sText_inj i hi j hj (h2.symm.trans h4)
theorem SentAll.g {w : World} {E : Nat → Addr} (h : SentAll w E) (i : Nat) (hi : i < 14) : w.cell? ⟨sGlob.getD i 0, 0, none⟩ = Option.some (sErr E i) := (h i hi).1

/-- Those that may be told of a program, and that there is no room. -/
structure SentP (w : World) (E : Nat → Addr) : Prop where
 some : SentAt w E
 room : w.cell? ⟨sGlob.getD 13 0, 0, none⟩ = Option.some (sErr E 13)
theorem SentP.upd {w w' : World} {E : Nat → Addr} (h : SentP w E) (hu : Upd [] w w') : SentP w' E := ⟨h.some.upd hu, hu.cell h.room (by simp)⟩
theorem SentAll.toP {w : World} {E : Nat → Addr} (h : SentAll w E) : SentP w E := ⟨h.some, h.g 13 (by omega)⟩

/-- What a row's list gives: api's errors lie somewhere. -/
theorem sentAll_of_laid {W : World} {r : List (String × DataW Unit)} (h0 : laidMet Tryd.prog ([("overdrive/api.ErrMany", Rows.laid_overdrive_api_ErrMany), ("overdrive/api.ErrKind", Rows.laid_overdrive_api_ErrKind), ("overdrive/api.ErrIndex", Rows.laid_overdrive_api_ErrIndex), ("overdrive/api.ErrTarget", Rows.laid_overdrive_api_ErrTarget), ("overdrive/api.ErrShape", Rows.laid_overdrive_api_ErrShape), ("overdrive/api.ErrEnd", Rows.laid_overdrive_api_ErrEnd), ("overdrive/api.ErrByte", Rows.laid_overdrive_api_ErrByte), ("overdrive/api.ErrStack", Rows.laid_overdrive_api_ErrStack), ("overdrive/api.ErrMerge", Rows.laid_overdrive_api_ErrMerge), ("overdrive/api.ErrFall", Rows.laid_overdrive_api_ErrFall), ("overdrive/api.ErrLimit", Rows.laid_overdrive_api_ErrLimit), ("overdrive/api.ErrNode", Rows.laid_overdrive_api_ErrNode), ("overdrive/api.ErrState", Rows.laid_overdrive_api_ErrState), ("overdrive/api.ErrRoom", Rows.laid_overdrive_api_ErrRoom)] ++ r) W) : ∃ E, SentAll W E := by
 obtain ⟨a0, x0⟩ := laid_one h0 Tryd.gErrMany Tryd.tErrMany Tryd.underlying35 Tryd.rowE Tryd.underlying127 Tryd.underlying144 rfl rfl Tryd.underlying9 Tryd.cellsE1 Tryd.cellsS1
 have h1 := h0.tail
 obtain ⟨a1, x1⟩ := laid_one h1 Tryd.gErrKind Tryd.tErrKind Tryd.underlying35 Tryd.rowE Tryd.underlying127 Tryd.underlying144 rfl rfl Tryd.underlying9 Tryd.cellsE1 Tryd.cellsS1
 have h2 := h1.tail
 obtain ⟨a2, x2⟩ := laid_one h2 Tryd.gErrIndex Tryd.tErrIndex Tryd.underlying35 Tryd.rowE Tryd.underlying127 Tryd.underlying144 rfl rfl Tryd.underlying9 Tryd.cellsE1 Tryd.cellsS1
 have h3 := h2.tail
 obtain ⟨a3, x3⟩ := laid_one h3 Tryd.gErrTarget Tryd.tErrTarget Tryd.underlying35 Tryd.rowE Tryd.underlying127 Tryd.underlying144 rfl rfl Tryd.underlying9 Tryd.cellsE1 Tryd.cellsS1
 have h4 := h3.tail
 obtain ⟨a4, x4⟩ := laid_one h4 Tryd.gErrShape Tryd.tErrShape Tryd.underlying35 Tryd.rowE Tryd.underlying127 Tryd.underlying144 rfl rfl Tryd.underlying9 Tryd.cellsE1 Tryd.cellsS1
 have h5 := h4.tail
 obtain ⟨a5, x5⟩ := laid_one h5 Tryd.gErrEnd Tryd.tErrEnd Tryd.underlying35 Tryd.rowE Tryd.underlying127 Tryd.underlying144 rfl rfl Tryd.underlying9 Tryd.cellsE1 Tryd.cellsS1
 have h6 := h5.tail
 obtain ⟨a6, x6⟩ := laid_one h6 Tryd.gErrByte Tryd.tErrByte Tryd.underlying35 Tryd.rowE Tryd.underlying127 Tryd.underlying144 rfl rfl Tryd.underlying9 Tryd.cellsE1 Tryd.cellsS1
 have h7 := h6.tail
 obtain ⟨a7, x7⟩ := laid_one h7 Tryd.gErrStack Tryd.tErrStack Tryd.underlying35 Tryd.rowE Tryd.underlying127 Tryd.underlying144 rfl rfl Tryd.underlying9 Tryd.cellsE1 Tryd.cellsS1
 have h8 := h7.tail
 obtain ⟨a8, x8⟩ := laid_one h8 Tryd.gErrMerge Tryd.tErrMerge Tryd.underlying35 Tryd.rowE Tryd.underlying127 Tryd.underlying144 rfl rfl Tryd.underlying9 Tryd.cellsE1 Tryd.cellsS1
 have h9 := h8.tail
 obtain ⟨a9, x9⟩ := laid_one h9 Tryd.gErrFall Tryd.tErrFall Tryd.underlying35 Tryd.rowE Tryd.underlying127 Tryd.underlying144 rfl rfl Tryd.underlying9 Tryd.cellsE1 Tryd.cellsS1
 have h10 := h9.tail
 obtain ⟨a10, x10⟩ := laid_one h10 Tryd.gErrLimit Tryd.tErrLimit Tryd.underlying35 Tryd.rowE Tryd.underlying127 Tryd.underlying144 rfl rfl Tryd.underlying9 Tryd.cellsE1 Tryd.cellsS1
 have h11 := h10.tail
 obtain ⟨a11, x11⟩ := laid_one h11 Tryd.gErrNode Tryd.tErrNode Tryd.underlying35 Tryd.rowE Tryd.underlying127 Tryd.underlying144 rfl rfl Tryd.underlying9 Tryd.cellsE1 Tryd.cellsS1
 have h12 := h11.tail
 obtain ⟨a12, x12⟩ := laid_one h12 Tryd.gErrState Tryd.tErrState Tryd.underlying35 Tryd.rowE Tryd.underlying127 Tryd.underlying144 rfl rfl Tryd.underlying9 Tryd.cellsE1 Tryd.cellsS1
 have h13 := h12.tail
 obtain ⟨a13, x13⟩ := laid_one h13 Tryd.gErrRoom Tryd.tErrRoom Tryd.underlying35 Tryd.rowE Tryd.underlying127 Tryd.underlying144 rfl rfl Tryd.underlying9 Tryd.cellsE1 Tryd.cellsS1
 refine ⟨fun i => [a0, a1, a2, a3, a4, a5, a6, a7, a8, a9, a10, a11, a12, a13].getD i a0, fun i hi => ?_⟩
 have hi' : i = 0 ∨ i = 1 ∨ i = 2 ∨ i = 3 ∨ i = 4 ∨ i = 5 ∨ i = 6 ∨ i = 7 ∨ i = 8 ∨ i = 9 ∨ i = 10 ∨ i = 11 ∨ i = 12 ∨ i = 13 := by omega
 rcases hi' with rfl | rfl | rfl | rfl | rfl | rfl | rfl | rfl | rfl | rfl | rfl | rfl | rfl | rfl
 ·exact x0
 ·exact x1
 ·exact x2
 ·exact x3
 ·exact x4
 ·exact x5
 ·exact x6
 ·exact x7
 ·exact x8
 ·exact x9
 ·exact x10
 ·exact x11
 ·exact x12
 ·exact x13

/-- .. and where only these are listed. -/
theorem sentP_of_laid {W : World} {r : List (String × DataW Unit)} (h0 : laidMet Tryd.prog ([("overdrive/api.ErrMany", Rows.laid_overdrive_api_ErrMany), ("overdrive/api.ErrKind", Rows.laid_overdrive_api_ErrKind), ("overdrive/api.ErrIndex", Rows.laid_overdrive_api_ErrIndex), ("overdrive/api.ErrTarget", Rows.laid_overdrive_api_ErrTarget), ("overdrive/api.ErrShape", Rows.laid_overdrive_api_ErrShape), ("overdrive/api.ErrStack", Rows.laid_overdrive_api_ErrStack), ("overdrive/api.ErrMerge", Rows.laid_overdrive_api_ErrMerge), ("overdrive/api.ErrFall", Rows.laid_overdrive_api_ErrFall), ("overdrive/api.ErrLimit", Rows.laid_overdrive_api_ErrLimit), ("overdrive/api.ErrRoom", Rows.laid_overdrive_api_ErrRoom)] ++ r) W) : ∃ E, SentP W E := by
 obtain ⟨a0, x0⟩ := laid_one h0 Tryd.gErrMany Tryd.tErrMany Tryd.underlying35 Tryd.rowE Tryd.underlying127 Tryd.underlying144 rfl rfl Tryd.underlying9 Tryd.cellsE1 Tryd.cellsS1
 have h1 := h0.tail
 obtain ⟨a1, x1⟩ := laid_one h1 Tryd.gErrKind Tryd.tErrKind Tryd.underlying35 Tryd.rowE Tryd.underlying127 Tryd.underlying144 rfl rfl Tryd.underlying9 Tryd.cellsE1 Tryd.cellsS1
 have h2 := h1.tail
 obtain ⟨a2, x2⟩ := laid_one h2 Tryd.gErrIndex Tryd.tErrIndex Tryd.underlying35 Tryd.rowE Tryd.underlying127 Tryd.underlying144 rfl rfl Tryd.underlying9 Tryd.cellsE1 Tryd.cellsS1
 have h3 := h2.tail
 obtain ⟨a3, x3⟩ := laid_one h3 Tryd.gErrTarget Tryd.tErrTarget Tryd.underlying35 Tryd.rowE Tryd.underlying127 Tryd.underlying144 rfl rfl Tryd.underlying9 Tryd.cellsE1 Tryd.cellsS1
 have h4 := h3.tail
 obtain ⟨a4, x4⟩ := laid_one h4 Tryd.gErrShape Tryd.tErrShape Tryd.underlying35 Tryd.rowE Tryd.underlying127 Tryd.underlying144 rfl rfl Tryd.underlying9 Tryd.cellsE1 Tryd.cellsS1
 have h5 := h4.tail
 obtain ⟨a7, x7⟩ := laid_one h5 Tryd.gErrStack Tryd.tErrStack Tryd.underlying35 Tryd.rowE Tryd.underlying127 Tryd.underlying144 rfl rfl Tryd.underlying9 Tryd.cellsE1 Tryd.cellsS1
 have h6 := h5.tail
 obtain ⟨a8, x8⟩ := laid_one h6 Tryd.gErrMerge Tryd.tErrMerge Tryd.underlying35 Tryd.rowE Tryd.underlying127 Tryd.underlying144 rfl rfl Tryd.underlying9 Tryd.cellsE1 Tryd.cellsS1
 have h7 := h6.tail
 obtain ⟨a9, x9⟩ := laid_one h7 Tryd.gErrFall Tryd.tErrFall Tryd.underlying35 Tryd.rowE Tryd.underlying127 Tryd.underlying144 rfl rfl Tryd.underlying9 Tryd.cellsE1 Tryd.cellsS1
 have h8 := h7.tail
 obtain ⟨a10, x10⟩ := laid_one h8 Tryd.gErrLimit Tryd.tErrLimit Tryd.underlying35 Tryd.rowE Tryd.underlying127 Tryd.underlying144 rfl rfl Tryd.underlying9 Tryd.cellsE1 Tryd.cellsS1
 have h9 := h8.tail
 obtain ⟨a13, x13⟩ := laid_one h9 Tryd.gErrRoom Tryd.tErrRoom Tryd.underlying35 Tryd.rowE Tryd.underlying127 Tryd.underlying144 rfl rfl Tryd.underlying9 Tryd.cellsE1 Tryd.cellsS1
 refine ⟨fun i => [a0, a1, a2, a3, a4, a0, a0, a7, a8, a9, a10, a0, a0, a13].getD i a0, fun i hi => ?_, x13.1⟩
 have hi' : i = 0 ∨ i = 1 ∨ i = 2 ∨ i = 3 ∨ i = 7 ∨ i = 8 ∨ i = 9 := by omega
 rcases hi' with rfl | rfl | rfl | rfl | rfl | rfl | rfl
 ·exact x0
 ·exact x1
 ·exact x2
 ·exact x3
 ·exact x7
 ·exact x8
 ·exact x9

end Go.Proofs.YtbcoejmiihgfoaaDoor
