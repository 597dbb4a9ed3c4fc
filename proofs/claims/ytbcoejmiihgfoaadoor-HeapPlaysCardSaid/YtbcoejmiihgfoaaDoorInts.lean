/- Integers that a slice value reads as. Facts of the types of integers. -/
import Derived.Test.YtbcoejmiihgfoaaDoorLib
import Derived.Test.YtbcoejmiihgfoaaDoorRows
/-! Integers that a slice value reads as. -/
namespace Go.Proofs.YtbcoejmiihgfoaaDoor
open Go.RowKit

theorem row_upd {w w' : World} {base : Nat} {e : TypeId} {size : Nat} {v : Value} {n : Nat} {xs : List Value} {T : List Nat} (h : w.ownsRow base e size v n xs) (hu : Upd T w w') (hT : ∀ k, v.ownBlock = some k → k ∉ T) : w'.ownsRow base e size v n xs := by
 refine ⟨h.1, ?_⟩
 rcases h.2 with hn | ⟨g, cap, cur, rfl, hb, hgg, rest⟩
 ·exact .inl hn
 ·exact .inr ⟨g, cap, cur, rfl, hb, hu.heap hgg (hT g rfl), rest⟩

/-- A slice value reads as these integers, which lie in block b. -/
def IntsV (w : World) (v : Value) (b : Nat) (xs : List Int) : Prop :=
 ((v = .slice none 0 0 ∧ xs = []) ∨ ∃ cap, v = .slice (some ⟨b, 0, none⟩) xs.length cap) ∧ ∀ i, i < xs.length → w.cell? ⟨b, i, none⟩ = some (.int .i64 (xs.getD i 0))

theorem IntsV.upd {w w' : World} {v : Value} {b : Nat} {xs : List Int} {T : List Nat} (h : IntsV w v b xs) (hu : Upd T w w') (hT : xs = [] ∨ b ∉ T) : IntsV w' v b xs := by
 refine ⟨h.1, fun i hi => ?_⟩
 rcases hT with rfl | hT
 ·simp at hi
 ·exact hu.cell (h.2 i hi) hT

theorem IntsV.of_row {w : World} {base : Nat} {e : TypeId} {v : Value} {n : Nat} {xs : List Int} (h : w.ownsRow base e 1 v n (xs.map (Value.int .i64))) : ∃ b, IntsV w v b xs ∧ (xs = [] ∨ v.ownBlock = some b) := by
 have hl : xs.length = n := by simpa using h.1
 rcases h.2 with ⟨hv, hn⟩ | ⟨g, cap, cur, hv, hb, hg, rest⟩
 ·have : xs = [] := List.eq_nil_of_length_eq_zero (by omega)
  subst this
  exact ⟨0, ⟨.inl ⟨hv, rfl⟩, by simp⟩, .inl rfl⟩
 ·refine ⟨g, ⟨.inr ⟨cap, by rw [hv, hl]⟩, fun i hi => ?_⟩, .inr (by rw [hv]; rfl)⟩
  have h1 := h.cells (g := g) (by rw [hv]; rfl) i (.int .i64 (xs.getD i 0)) (by
   rw [List.getElem?_map, List.getElem?_eq_getElem hi, List.getD_eq_getElem?_getD, List.getElem?_eq_getElem hi]; rfl)
  rwa [Addr.add_lit, Nat.zero_add] at h1

theorem IntsV.form {w : World} {v : Value} {b : Nat} {xs : List Int} (h : IntsV w v b xs) : ∃ p c, v = .slice p xs.length c := by
 rcases h.1 with ⟨h1, h2⟩ | ⟨c, h1⟩
 ·exact ⟨none, 0, by rw [h1, h2]; rfl⟩
 ·exact ⟨_, c, h1⟩

theorem sints_nth (a : Option Addr) (b cap : Nat) (xs : List Int) (w : World) (h : IntsV w (.slice a xs.length cap) b xs) (k : Nat) (hk : k < xs.length) : a = some ⟨b, 0, none⟩ ∧ w.cell? ⟨b, k, none⟩ = some (.int .i64 (xs.getD k 0)) := by
 refine ⟨?_, h.2 k hk⟩
 rcases h.1 with ⟨_, h2⟩ | ⟨c, h1⟩
 ·rw [h2] at hk; simp at hk
 ·injection h1

theorem slongs_nth (a : Option Addr) (b cap : Nat) (xs : List Int) (w : World) (h : IntsV w (.slice a xs.length cap) b xs) (k : Nat) (hk : k < xs.length) : a = some ⟨b, 0, none⟩ ∧ w.cell? ⟨b, k, none⟩ = some (.int .i64 (xs.getD k 0)) := by
 refine ⟨?_, h.2 k hk⟩
 rcases h.1 with ⟨_, h2⟩ | ⟨c, h1⟩
 ·rw [h2] at hk; simp at hk
 ·injection h1

theorem ints_lit (w : World) (xs : List Int) (T : TypeId) {cs : Array Value} (hcs : cs = icells xs) : IntsV (w.alloc (.cells cs T)) (.slice (some ⟨w.heap.size, 0, none⟩) xs.length xs.length) w.heap.size xs := by
 subst hcs
 refine ⟨.inr ⟨_, rfl⟩, fun i hi => ?_⟩
 rw [cell_of (heap_alloc_new w _)]
 exact icells_get xs i hi

theorem madeCells_zero (n : Nat) : madeCells (Value.int .i64 0).cells n = icells (List.replicate n 0) := by
 unfold madeCells icells
 apply Array.ext_getElem?
 intro i
 simp only [List.map_replicate]
 by_cases h : i < n
 ·simp [h, Value.cells, Nat.mod_one]
 ·simp [h]

end Go.Proofs.YtbcoejmiihgfoaaDoor

/-! Facts of the types of integers. -/
namespace Go.Proofs.YtbcoejmiihgfoaaDoor
open Go.RowKit

theorem Tryd.infoInt : (Tryd.prog.info? 3).map (fun i => (i.zero, i.size, i.bytes)) = some (some (.int .i64 0), 1, 8) := by kernel_rfl
theorem Tryd.infoLong : (Tryd.prog.info? 2).map (fun i => (i.zero, i.size, i.bytes)) = some (some (.int .i64 0), 1, 8) := by kernel_rfl

end Go.Proofs.YtbcoejmiihgfoaaDoor
