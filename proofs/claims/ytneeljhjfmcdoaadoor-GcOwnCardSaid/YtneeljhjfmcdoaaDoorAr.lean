/- Walks of the functions of package arena. -/
import Derived.Test.YtneeljhjfmcdoaaDoorRows
import Derived.Test.YtneeljhjfmcdoaaDoorLib
import Derived.StillTailTactics
import Derived.Laws.CopyOwn
import Derived.Deep.QuietTactic
import Derived.BigQuiet
namespace Go.Proofs.YtneeljhjfmcdoaaDoor
open Go.RowKit

set_option maxHeartbeats 400000 in
theorem pack_no (c n : Int) (w : World) (h : c < -2 ∨ 12 ≤ c ∨ n < 0 ∨ 1048576 < n) :
    Calls Tryd.prog 71 #[.int .i64 c, .int .i64 n] w fun e w' => e = .returned (.int .i64 (-1)) ∧ w = w' := by
  go_enter Tryd.func71, Tryd.ntmps71
  go_wp2
  all_goals (go_ret; exact ⟨rfl, rfl⟩)

theorem ret_int {k : IntKind} {a b : Int} (h : a = b) : Ending.returned (.int k a) = .returned (.int k b) := by rw [h]

/-- The word of a head. -/
def packV (c n : Int) : Int := (c + 3) * 16777216 + n

set_option maxHeartbeats 400000 in
theorem pack_yes (c n : Int) (w : World) (h1 : -2 ≤ c) (h2 : c < 12) (h3 : 0 ≤ n) (h4 : n ≤ 1048576) :
    Calls Tryd.prog 71 #[.int .i64 c, .int .i64 n] w fun e w' => e = .returned (.int .i64 (packV c n)) ∧ w = w' := by
  go_enter Tryd.func71, Tryd.ntmps71
  go_wp2
  go_ret
  exact ⟨ret_int (by rw [or_shift _ _ (by omega) (by omega) h3 (by omega)]; unfold packV; omega), rfl⟩

/-- The arena at block b has the words xs, which lie in block g. -/
def ArAt (w : World) (b g : Nat) (xs : List Int) : Prop :=
  w.heap[b]? = some (.cells #[.slice (some ⟨g, 0, none⟩) xs.length xs.length] 136) ∧ w.heap[g]? = some (.cells (icells xs) 2) ∧ xs.length ≤ 65536

theorem ArAt.ne {w : World} {b g : Nat} {xs : List Int} (h : ArAt w b g xs) : b ≠ g := by
  rintro rfl
  have := h.1.symm.trans h.2.1
  simp at this

theorem ArAt.upd {w w' : World} {b g : Nat} {xs : List Int} {S : List Nat} (h : ArAt w b g xs) (hu : Upd S w w') (hb : b ∉ S) (hg : g ∉ S) : ArAt w' b g xs :=
  ⟨hu.heap h.1 hb, hu.heap h.2.1 hg, h.2.2⟩

theorem ArAt.cell {w : World} {b g : Nat} {xs : List Int} (h : ArAt w b g xs) : w.cell? ⟨b, 0, none⟩ = some (.slice (some ⟨g, 0, none⟩) xs.length xs.length) := by
  rw [cell_of h.1]; rfl
theorem ArAt.word {w : World} {b g : Nat} {xs : List Int} (h : ArAt w b g xs) (i : Nat) (hi : i < xs.length) : w.cell? ⟨g, i, none⟩ = some (.int .i64 (xs.getD i 0)) := by
  rw [cell_of h.2.1]; exact icells_get xs i hi
theorem ArAt.free {w : World} {b g : Nat} {xs : List Int} (h : ArAt w b g xs) (i : Nat) : w.frozen? ⟨g, i, none⟩ = false := froz_of h.2.1 i
theorem ArAt.set {w : World} {b g : Nat} {xs : List Int} (h : ArAt w b g xs) (i : Nat) (v : Int) : ArAt (w.setCell ⟨g, i, none⟩ (.int .i64 v)) b g (xs.set i v) := by
  refine ⟨?_, ?_, by simpa using h.2.2⟩
  · rw [Below.heap_setCell _ _ _ _ h.ne]; simpa using h.1
  · rw [heap_setCell h.2.1, icells_set]

set_option maxHeartbeats 400000 in
theorem len_any (b g : Nat) (xs : List Int) (w : World) (h : ArAt w b g xs) :
    Calls Tryd.prog 75 #[.pointer (some ⟨b, 0, none⟩)] w fun e w' => e = .returned (.int .i64 xs.length) ∧ w = w' := by
  have hb := h.cell
  have hl := h.2.2
  go_enter Tryd.func75, Tryd.ntmps75
  go_wp2
  go_ret
  exact ⟨rfl, rfl⟩

set_option maxHeartbeats 400000 in
theorem load_in (b g : Nat) (xs : List Int) (i : Int) (w : World) (h : ArAt w b g xs) (h0 : 0 ≤ i) (h1 : i < xs.length) :
    Calls Tryd.prog 42 #[.pointer (some ⟨b, 0, none⟩), .int .i64 i] w fun e w' => e = .returned (.tuple #[.int .i64 (xs.getD i.toNat 0), .bool true]) ∧ w = w' := by
  obtain ⟨k, rfl⟩ := Int.eq_ofNat_of_zero_le h0
  have hb := h.cell
  have hl := h.2.2
  have hc := h.word k (by omega)
  go_enter Tryd.func42, Tryd.ntmps42
  go_wp2
  go_ret2
  exact ⟨rfl, rfl⟩

set_option maxHeartbeats 400000 in
theorem load_out (b g : Nat) (xs : List Int) (i : Int) (w : World) (h : ArAt w b g xs) (h0 : i < 0 ∨ xs.length ≤ i) :
    Calls Tryd.prog 42 #[.pointer (some ⟨b, 0, none⟩), .int .i64 i] w fun e w' => e = .returned (.tuple #[.int .i64 0, .bool false]) ∧ w = w' := by
  have hb := h.cell
  have hl := h.2.2
  go_enter Tryd.func42, Tryd.ntmps42
  go_wp2
  all_goals (go_ret2; exact ⟨rfl, rfl⟩)

set_option maxHeartbeats 400000 in
theorem store_in (b g : Nat) (xs : List Int) (i v : Int) (w : World) (h : ArAt w b g xs) (h0 : 0 ≤ i) (h1 : i < xs.length) :
    Calls Tryd.prog 70 #[.pointer (some ⟨b, 0, none⟩), .int .i64 i, .int .i64 v] w fun e w' => e = .returned (.bool true) ∧ ArAt w' b g (xs.set i.toNat v) ∧ Upd [g] w w' := by
  obtain ⟨k, rfl⟩ := Int.eq_ofNat_of_zero_le h0
  have hb := h.cell
  have hl := h.2.2
  have hc := h.word k (by omega)
  have hf := h.free k
  have H1 := Lib.hid (h.set k v)
  go_enter Tryd.func70, Tryd.ntmps70
  go_wp2
  go_ret
  exact ⟨rfl, H1.out, (Upd.refl _ _).setCell (by simp) _⟩

set_option maxHeartbeats 400000 in
theorem store_out (b g : Nat) (xs : List Int) (i v : Int) (w : World) (h : ArAt w b g xs) (h0 : i < 0 ∨ xs.length ≤ i) :
    Calls Tryd.prog 70 #[.pointer (some ⟨b, 0, none⟩), .int .i64 i, .int .i64 v] w fun e w' => e = .returned (.bool false) ∧ w = w' := by
  have hb := h.cell
  have hl := h.2.2
  go_enter Tryd.func70, Tryd.ntmps70
  go_wp2
  all_goals (go_ret; exact ⟨rfl, rfl⟩)

set_option maxHeartbeats 400000 in
theorem there_yes (b g : Nat) (xs : List Int) (i n : Int) (w : World) (h : ArAt w b g xs) (h0 : 0 ≤ i) (h1 : i ≤ xs.length) (h2 : n ≤ xs.length - i) :
    Calls Tryd.prog 92 #[.pointer (some ⟨b, 0, none⟩), .int .i64 i, .int .i64 n] w fun e w' => e = .returned (.bool true) ∧ w = w' := by
  have hb := h.cell
  have hl := h.2.2
  have d0 : decide (0 ≤ i) = true := by simpa using h0
  have d1 : decide (i ≤ (xs.length : Int)) = true := by simpa using h1
  have d2 : decide (n ≤ (xs.length : Int) - i) = true := by simpa using h2
  go_enter Tryd.func92, Tryd.ntmps92
  go_wp2
  go_ret
  exact ⟨rfl, rfl⟩

end Go.Proofs.YtneeljhjfmcdoaaDoor
