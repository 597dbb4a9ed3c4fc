/- Opening a []int64 that comes in; none has no room. -/
import Derived.Test.YtojobkhidlfeoaaGreatDoorFrame
import Derived.Test.YtojobkhidlfeoaaGreatDoorMdM
namespace Go.Proofs.YtojobkhidlfeoaaGreatDoor
open Go.ChangeShapes Go.WideShapes Go.ChangeAt Go.RowKit

/-- A slice value reads as these integers; none has no room. -/
def LongsAt (W : World) (v : Value) (xs : List Int) : Prop :=
 ∃ a cap, v = .slice a xs.length cap ∧ (a = none → cap = 0) ∧ (∀ x ∈ xs, in64 x) ∧ ∃ b o, LngV W (.slice a xs.length cap) b o xs
theorem LongsAt.upd {w w' : World} {v : Value} {xs : List Int} (h : LongsAt w v xs) (hu : Upd [] w w') : LongsAt w' v xs := by
 obtain ⟨a, cap, h1, h2, h3, b, o, h4⟩ := h
 exact ⟨a, cap, h1, h2, h3, b, o, h4.upd hu (.inr (by simp))⟩
theorem open_longs {H : Type} {enc : TypeId × Value → H} {W : World} {v : Value} {d : DataW H} {p : List MemPlace}
  (hval : ∃ a len cap, v = .slice a len cap) (h : DataW.Trod enc Tryz.prog W 0 (fun _ => true) true 26 v d p) : ∃ xs, LongsAt W v xs := by
 obtain ⟨a0, len, cap, rfl⟩ := hval
 obtain ⟨fuel, hf⟩ := h
 rcases open_ints Tryz.underlying26 Tryz.underlying2 (by kernel_rfl) hf with ⟨hcs, hx⟩ | ⟨a, len', cap', zs, hcs, _, hl, hm, hz, hx, hcell, hwz⟩
 ·simp [Value.cells] at hcs
  obtain ⟨rfl, rfl, rfl⟩ := hcs
  exact ⟨[], none, 0, rfl, fun _ => rfl, by simp, 0, 0, ⟨none, 0, rfl, by simp, by simp [maxLen], fun h => absurd rfl h⟩, by simp⟩
 ·simp [Value.cells] at hcs
  obtain ⟨rfl, rfl, rfl⟩ := hcs
  simp at hz
  have hlen : (zs.take len).length = len := by simp; omega
  refine ⟨zs.take len, some a, cap, by rw [hlen], (fun h => nomatch h), fun x hx => bd_i64 (hwz x (List.mem_of_mem_take hx)), ?_⟩
  by_cases h0 : len = 0
  ·refine ⟨0, 0, ⟨some a, cap, rfl, by rw [hlen]; exact hl, hm, fun h => absurd (by subst h0; simp) h⟩, fun i hi => ?_⟩
   rw [hlen] at hi
   omega
  ·obtain ⟨b, off, rfl, hc'⟩ := ints_at hcell (by omega)
   refine ⟨b, off, ⟨some _, cap, rfl, by rw [hlen]; exact hl, hm, fun _ => rfl⟩, fun i hi => ?_⟩
   rw [hlen] at hi
   rw [hc' i (by omega)]
   have hiz : i < zs.length := by omega
   simp [List.getD_eq_getElem?_getD, hi, hiz]
end Go.Proofs.YtojobkhidlfeoaaGreatDoor
