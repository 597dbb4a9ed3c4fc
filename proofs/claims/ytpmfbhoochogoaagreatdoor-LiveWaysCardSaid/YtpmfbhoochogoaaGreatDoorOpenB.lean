/- A []bool that comes in. -/
import Derived.Test.YtpmfbhoochogoaaGreatDoorFrame
import Derived.Deep.Grids
namespace Go.Proofs.YtpmfbhoochogoaaGreatDoor
open Go.RowKit

/-- A slice value reads as these booleans. -/
def BoolsAt (w : World) (v : Value) (xs : List Bool) : Prop :=
  ∃ a c, v = .slice a xs.length c ∧ ∀ i, i < xs.length → ∃ b o, a = some ⟨b, o, none⟩ ∧ w.cell? ⟨b, o + i, none⟩ = some (.bool (xs.getD i false))

open Go.ChangeShapes Go.WideShapes in
theorem open_boolsV {H : Type} {enc : TypeId × Value → H} {W : World} {v : Value} {d : DataW H} {p : List MemPlace} (hv : ∃ a l c, v = .slice a l c) (h : DataW.Trod enc Tryz.prog W 0 (fun _ => true) true 79 v d p) : ∃ xs, BoolsAt W v xs := by
  obtain ⟨fuel, hf⟩ := h
  obtain ⟨a0, l0, c0, rfl⟩ := hv
  rcases Go.Deep.open_bools Tryz.underlying79 Tryz.underlying4 (by kernel_rfl) hf with ⟨h0, _⟩ | ⟨a, len, cap, B, hcs, _, hl, hm, _, hc⟩
  · injection h0 with h0
    injection h0 with e1 e2 e3
    subst e1 e2 e3
    exact ⟨[], none, 0, rfl, by simp⟩
  · injection hcs with hcs
    injection hcs with e1 e2 e3
    subst e1 e2 e3
    have hlen : ((List.range l0).map B).length = l0 := by simp
    refine ⟨(List.range l0).map B, some a, c0, by rw [hlen], fun i hi => ?_⟩
    rw [hlen] at hi
    have h1 := hc i (by omega)
    obtain ⟨b, o, spot⟩ := a
    have : spot = none := by
      have h2 := hc 0 (by omega)
      simpa [Addr.add] using World.cell?_spot h2
    subst this
    refine ⟨b, o, rfl, ?_⟩
    rw [Go.WideShapes.add_plain] at h1
    have e1 : ((List.range l0).map B).getD i false = B i := by
      rw [List.getD_eq_getElem?_getD, List.getElem?_map, List.getElem?_range hi]; rfl
    rw [e1]
    exact h1
end Go.Proofs.YtpmfbhoochogoaaGreatDoor
