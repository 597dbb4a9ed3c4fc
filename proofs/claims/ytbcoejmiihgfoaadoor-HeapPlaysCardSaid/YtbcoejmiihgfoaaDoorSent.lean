/- api's errors: where they lie. -/
import Derived.Test.YtbcoejmiihgfoaaDoorRows
import Derived.Test.YtbcoejmiihgfoaaDoorLib
import Derived.LaidEql
import Derived.LaidLaws
import Derived.Stop.LaidErr
import Derived.Deep.QuietTactic
import Derived.BigQuiet
namespace Go.Proofs.YtbcoejmiihgfoaaDoor
open Go.RowKit Go.ChangeShapes

/-- api's errors, in the order of their numbers: the variables' numbers, their texts. -/
def sGlob : List Nat := [2, 3, 4, 5, 6, 7, 8, 9, 10, 11, 0, 12, 13, 14]
def sText : List (List UInt8) := [[116, 111, 111, 32, 109, 97, 110, 121], [110, 111, 32, 115, 117, 99, 104, 32, 107, 105, 110, 100], [110, 111, 32, 115, 117, 99, 104, 32, 116, 104, 105, 110, 103], [110, 111, 32, 112, 108, 97, 99, 101, 32, 116, 111, 32, 106, 117, 109, 112, 32, 116, 111], [110, 111, 116, 32, 116, 104, 101, 32, 115, 104, 97, 112, 101, 32, 116, 104, 97, 116, 32, 105, 116, 32, 104, 97, 115, 32, 116, 111, 32, 104, 97, 118, 101], [105, 116, 32, 101, 110, 100, 115, 32, 116, 111, 111, 32, 101, 97, 114, 108, 121], [97, 32, 98, 121, 116, 101, 32, 116, 104, 97, 116, 32, 100, 111, 101, 115, 32, 110, 111, 116, 32, 102, 105, 116], [116, 111, 111, 32, 108, 105, 116, 116, 108, 101, 32, 111, 114, 32, 116, 111, 111, 32, 109, 117, 99, 104, 32, 111, 110, 32, 116, 104, 101, 32, 115, 116, 97, 99, 107], [116, 119, 111, 32, 119, 97, 121, 115, 32, 116, 104, 97, 116, 32, 100, 111, 32, 110, 111, 116, 32, 97, 103, 114, 101, 101], [105, 116, 32, 102, 97, 108, 108, 115, 32, 111, 102, 102, 32, 116, 104, 101, 32, 101, 110, 100], [110, 111, 32, 115, 117, 99, 104, 32, 108, 105, 109, 105, 116], [97, 32, 110, 111, 100, 101, 32, 116, 104, 97, 116, 32, 109, 97, 121, 32, 110, 111, 116, 32, 98, 101], [97, 32, 115, 116, 97, 116, 101, 32, 116, 104, 97, 116, 32, 109, 97, 121, 32, 110, 111, 116, 32, 98, 101], [110, 111, 32, 114, 111, 111, 109]]

/-- One of api's errors lies at that address. -/
def SentOne (w : World) (g : Nat) (text : List UInt8) (a : Addr) : Prop :=
 w.cell? ⟨g, 0, none⟩ = some (.iface 127 (.pointer (some a))) ∧ (∃ c t, w.heap[a.block]? = some (.cells c t (0, 0))) ∧ ∃ s, w.cell? a = some (.string s) ∧ s.data.toList = text

theorem SentOne.upd {w w' : World} {g : Nat} {text : List UInt8} {a : Addr} (h : SentOne w g text a) (hu : Upd [] w w') : SentOne w' g text a := by
 obtain ⟨h1, ⟨c, t, h2⟩, s, h3, h4⟩ := h
 exact ⟨hu.cell h1 (by simp), ⟨c, t, hu.heap h2 (by simp)⟩, s, hu.cell h3 (by simp), h4⟩

/-- api's errors lie where E says: those that may be told of a program. -/
def SentAt (w : World) (E : Nat → Addr) : Prop := ∀ i, i ≤ 3 ∨ 7 ≤ i ∧ i ≤ 9 → SentOne w (sGlob.getD i 0) (sText.getD i []) (E i)

theorem SentAt.upd {w w' : World} {E : Nat → Addr} (h : SentAt w E) (hu : Upd [] w w') : SentAt w' E := fun i hi => (h i hi).upd hu

/-- The error of that number. -/
def sErr (E : Nat → Addr) (i : Nat) : Value := .iface 127 (.pointer (some (E i)))

theorem laid_one {n nm : String} {text : List UInt8} {r : List (String × DataW Unit)} {P : Program} {W : World} {g : Nat} {ti tp te ts : TypeId} {ms : Array (String × TypeId)} {f : Field}
  (h : laidMet P ((n, .iface nm (.ptr (.agg [.lit (.string text)]))) :: r) W)
  (hg : P.globalNamed n = some g) (ht : (P.globals[g]?).map (·.type) = some ti) (hi : P.underlying ti = some (.interface ms)) (hrow : ∀ u, P.typeName? 3 u = some nm → u = tp)
  (hp : P.underlying tp = some (.pointer te)) (he : P.underlying te = some (.struct #[f])) (hft : f.type = ts) (hfo : f.offset = 0) (hs : P.underlying ts = some .string) (hc : P.cellsOf te = 1) (hcs : P.cellsOf ts = 1) :
  ∃ a : Addr, W.cell? ⟨g, 0, none⟩ = some (.iface tp (.pointer (some a))) ∧ (∃ c t, W.heap[a.block]? = some (.cells c t (0, 0))) ∧ ∃ s : ByteArray, W.cell? a = some (.string s) ∧ s.data.toList = text := by
 obtain ⟨ps, ⟨g0, t0, cs0, f0, p0, q0, hg0, ht0, hv0, hd0, hq0, e0⟩, _, hrows⟩ := h
 obtain rfl := Option.some.inj (hg.symm.trans hg0)
 obtain rfl := Option.some.inj (ht.symm.trans ht0)
 subst e0
 obtain ⟨l0⟩ := cs0
 have ok0 : ∀ u v, l0 = [.iface u v] → Value.okWide P W .any 0 u v := fun u v e => by
  subst e
  exact (hrows g 0 (by simp [MemPlace.row])).2 u v (by simpa using World.var?_cell hg0 hv0 0)
 obtain ⟨a0, s0, rfl, hc0, hs0, hz0, rfl⟩ := errorString_of_trod hi hrow hp he hft hfo hs hc hcs hd0 ok0
 obtain ⟨c0, t0, hb0⟩ := (hrows a0.block a0.off (by simp [MemPlace.row])).1
 exact ⟨a0, by simpa using World.var?_cell hg0 hv0 0, ⟨c0, t0, hb0⟩, s0, hc0, hs0⟩

theorem Tryd.starE : "*" ++ "errors.errorString" = "*errors.errorString" := by decide
theorem Tryd.rowE (u : TypeId) (h : Tryd.prog.typeName? 3 u = some "*errors.errorString") : u = 127 :=
 typeName_ptr_named (nm := "errors.errorString") (by rw [Tryd.starE]; kernel_rfl) (by kernel_rfl) (by decide) u (by rw [Tryd.starE]; exact h)
theorem Tryd.cellsE1 : Tryd.prog.cellsOf 144 = 1 := by kernel_rfl
theorem Tryd.cellsS1 : Tryd.prog.cellsOf 9 = 1 := by kernel_rfl

theorem Tryd.compE : (Tryd.prog.info? 127).map (·.comparable) = some true := by kernel_rfl
theorem Tryd.sizeE : (Tryd.prog.info? 144).map (·.size) = some 1 := by kernel_rfl

theorem SentAt.g {w : World} {E : Nat → Addr} (h : SentAt w E) (i : Nat) (hi : i ≤ 3 ∨ 7 ≤ i ∧ i ≤ 9) : w.cell? ⟨sGlob.getD i 0, 0, none⟩ = some (sErr E i) := (h i hi).1

/-- An error by its code; 0: none. -/
def errC (E : Nat → Addr) (c : Int) : Value := if c = 0 then .nilIface else sErr E (c - 101).toNat
theorem ret_err {E : Nat → Addr} {c : Int} (k : Nat) (h : c = 101 + (k : Int)) : Ending.returned (.iface 127 (.pointer (some (E k)))) = .returned (errC E c) := by
 subst h; unfold errC sErr; rw [if_neg (by omega), show ((101 : Int) + (k : Int) - 101).toNat = k by omega]
theorem ret_nil {E : Nat → Addr} {c : Int} (h : c = 0) : Ending.returned .nilIface = .returned (errC E c) := by unfold errC; rw [if_pos h]

theorem Tryd.gErrMany : Tryd.prog.globalNamed "overdrive/api.ErrMany" = some 2 := by kernel_rfl
theorem Tryd.tErrMany : (Tryd.prog.globals[2]?).map (·.type) = some 35 := by kernel_rfl
theorem Tryd.gErrKind : Tryd.prog.globalNamed "overdrive/api.ErrKind" = some 3 := by kernel_rfl
theorem Tryd.tErrKind : (Tryd.prog.globals[3]?).map (·.type) = some 35 := by kernel_rfl
theorem Tryd.gErrIndex : Tryd.prog.globalNamed "overdrive/api.ErrIndex" = some 4 := by kernel_rfl
theorem Tryd.tErrIndex : (Tryd.prog.globals[4]?).map (·.type) = some 35 := by kernel_rfl
theorem Tryd.gErrTarget : Tryd.prog.globalNamed "overdrive/api.ErrTarget" = some 5 := by kernel_rfl
theorem Tryd.tErrTarget : (Tryd.prog.globals[5]?).map (·.type) = some 35 := by kernel_rfl
theorem Tryd.gErrShape : Tryd.prog.globalNamed "overdrive/api.ErrShape" = some 6 := by kernel_rfl
theorem Tryd.tErrShape : (Tryd.prog.globals[6]?).map (·.type) = some 35 := by kernel_rfl
theorem Tryd.gErrEnd : Tryd.prog.globalNamed "overdrive/api.ErrEnd" = some 7 := by kernel_rfl
theorem Tryd.tErrEnd : (Tryd.prog.globals[7]?).map (·.type) = some 35 := by kernel_rfl
theorem Tryd.gErrByte : Tryd.prog.globalNamed "overdrive/api.ErrByte" = some 8 := by kernel_rfl
theorem Tryd.tErrByte : (Tryd.prog.globals[8]?).map (·.type) = some 35 := by kernel_rfl
theorem Tryd.gErrStack : Tryd.prog.globalNamed "overdrive/api.ErrStack" = some 9 := by kernel_rfl
theorem Tryd.tErrStack : (Tryd.prog.globals[9]?).map (·.type) = some 35 := by kernel_rfl
theorem Tryd.gErrMerge : Tryd.prog.globalNamed "overdrive/api.ErrMerge" = some 10 := by kernel_rfl
theorem Tryd.tErrMerge : (Tryd.prog.globals[10]?).map (·.type) = some 35 := by kernel_rfl
theorem Tryd.gErrFall : Tryd.prog.globalNamed "overdrive/api.ErrFall" = some 11 := by kernel_rfl
theorem Tryd.tErrFall : (Tryd.prog.globals[11]?).map (·.type) = some 35 := by kernel_rfl
theorem Tryd.gErrLimit : Tryd.prog.globalNamed "overdrive/api.ErrLimit" = some 0 := by kernel_rfl
theorem Tryd.tErrLimit : (Tryd.prog.globals[0]?).map (·.type) = some 35 := by kernel_rfl
theorem Tryd.gErrNode : Tryd.prog.globalNamed "overdrive/api.ErrNode" = some 12 := by kernel_rfl
theorem Tryd.tErrNode : (Tryd.prog.globals[12]?).map (·.type) = some 35 := by kernel_rfl
theorem Tryd.gErrState : Tryd.prog.globalNamed "overdrive/api.ErrState" = some 13 := by kernel_rfl
theorem Tryd.tErrState : (Tryd.prog.globals[13]?).map (·.type) = some 35 := by kernel_rfl
theorem Tryd.gErrRoom : Tryd.prog.globalNamed "overdrive/api.ErrRoom" = some 14 := by kernel_rfl
theorem Tryd.tErrRoom : (Tryd.prog.globals[14]?).map (·.type) = some 35 := by kernel_rfl

/-- What a row's list gives: api's errors lie somewhere. -/
theorem sentAt_of_laid {W : World} {r : List (String × DataW Unit)} (h0 : laidMet Tryd.prog ([("overdrive/api.ErrMany", Rows.laid_overdrive_api_ErrMany), ("overdrive/api.ErrKind", Rows.laid_overdrive_api_ErrKind), ("overdrive/api.ErrIndex", Rows.laid_overdrive_api_ErrIndex), ("overdrive/api.ErrTarget", Rows.laid_overdrive_api_ErrTarget), ("overdrive/api.ErrStack", Rows.laid_overdrive_api_ErrStack), ("overdrive/api.ErrMerge", Rows.laid_overdrive_api_ErrMerge), ("overdrive/api.ErrFall", Rows.laid_overdrive_api_ErrFall)] ++ r) W) : ∃ E, SentAt W E := by
 obtain ⟨a0, x0⟩ := laid_one h0 Tryd.gErrMany Tryd.tErrMany Tryd.underlying35 Tryd.rowE Tryd.underlying127 Tryd.underlying144 rfl rfl Tryd.underlying9 Tryd.cellsE1 Tryd.cellsS1
 have h1 := h0.tail
 obtain ⟨a1, x1⟩ := laid_one h1 Tryd.gErrKind Tryd.tErrKind Tryd.underlying35 Tryd.rowE Tryd.underlying127 Tryd.underlying144 rfl rfl Tryd.underlying9 Tryd.cellsE1 Tryd.cellsS1
 have h2 := h1.tail
 obtain ⟨a2, x2⟩ := laid_one h2 Tryd.gErrIndex Tryd.tErrIndex Tryd.underlying35 Tryd.rowE Tryd.underlying127 Tryd.underlying144 rfl rfl Tryd.underlying9 Tryd.cellsE1 Tryd.cellsS1
 have h3 := h2.tail
 obtain ⟨a3, x3⟩ := laid_one h3 Tryd.gErrTarget Tryd.tErrTarget Tryd.underlying35 Tryd.rowE Tryd.underlying127 Tryd.underlying144 rfl rfl Tryd.underlying9 Tryd.cellsE1 Tryd.cellsS1
 have h4 := h3.tail
 obtain ⟨a7, x7⟩ := laid_one h4 Tryd.gErrStack Tryd.tErrStack Tryd.underlying35 Tryd.rowE Tryd.underlying127 Tryd.underlying144 rfl rfl Tryd.underlying9 Tryd.cellsE1 Tryd.cellsS1
 have h5 := h4.tail
 obtain ⟨a8, x8⟩ := laid_one h5 Tryd.gErrMerge Tryd.tErrMerge Tryd.underlying35 Tryd.rowE Tryd.underlying127 Tryd.underlying144 rfl rfl Tryd.underlying9 Tryd.cellsE1 Tryd.cellsS1
 have h6 := h5.tail
 obtain ⟨a9, x9⟩ := laid_one h6 Tryd.gErrFall Tryd.tErrFall Tryd.underlying35 Tryd.rowE Tryd.underlying127 Tryd.underlying144 rfl rfl Tryd.underlying9 Tryd.cellsE1 Tryd.cellsS1
 have h7 := h6.tail
 refine ⟨fun i => match i with
  | 0 => a0 | 1 => a1 | 2 => a2 | 3 => a3 | 7 => a7 | 8 => a8 | 9 => a9
  | _ => a0, fun i hi => ?_⟩
 have h : i = 0 ∨ i = 1 ∨ i = 2 ∨ i = 3 ∨ i = 7 ∨ i = 8 ∨ i = 9 := by omega
 rcases h with rfl | rfl | rfl | rfl | rfl | rfl | rfl
 ·exact x0
 ·exact x1
 ·exact x2
 ·exact x3
 ·exact x7
 ·exact x8
 ·exact x9
end Go.Proofs.YtbcoejmiihgfoaaDoor
