/- A []string that comes in reads as strings. -/
import Derived.Test.YtneeljhjfmcdoaaDoorFrame
import Derived.Test.YtneeljhjfmcdoaaDoorPrg
import Derived.Deep.Strs
namespace Go.Proofs.YtneeljhjfmcdoaaDoor
open Go.RowKit Go.ChangeShapes Go.WideShapes Go.Deep

theorem open_strings {H : Type} {enc : TypeId × Value → H} {t e : TypeId} {W : World} {v : Value} {d : DataW H} {p : List MemPlace} (ht : Tryd.prog.underlying t = some (.slice e)) (he : Tryd.prog.underlying e = some .string) (hc : Tryd.prog.cellsOf e = 1)
    (hval : ∃ a len cap, v = .slice a len cap) (h : DataW.Trod enc Tryd.prog W 0 (fun _ => true) true t v d p) : ∃ cs, ClassAt W v cs := by
  obtain ⟨a0, len, cap, rfl⟩ := hval
  obtain ⟨fuel, hf⟩ := h
  rcases open_strs ht he hc hf with ⟨hcs, hx⟩ | ⟨a, len', cap', m, Sx, hcs, _, hl, hm, hmm, hx, hi⟩
  · simp [Value.cells] at hcs
    obtain ⟨rfl, rfl, rfl⟩ := hcs
    exact ⟨[], none, 0, rfl, fun _ => rfl, by simp, by simp, by simp⟩
  · simp [Value.cells] at hcs
    obtain ⟨rfl, rfl, rfl⟩ := hcs
    have hlm : len ≤ m := by rw [hmm]; split <;> omega
    obtain ⟨b, o, spot⟩ := a
    have hl2 : ((List.range len).map Sx).length = len := by simp
    refine ⟨(List.range len).map Sx, some ⟨b, o, spot⟩, cap, by rw [hl2], by simp, by rw [hl2]; exact hl, hm, fun i hi' => ?_⟩
    rw [hl2] at hi'
    have hspot : spot = none := by simpa [Addr.add] using World.cell?_spot (hi 0 (by omega)).1
    subst hspot
    have e1 : ((List.range len).map Sx).getD i ByteArray.empty = Sx i := by
      rw [List.getD_eq_getElem?_getD, List.getElem?_map, List.getElem?_range hi']; rfl
    obtain ⟨h1, h2⟩ := hi i (by omega)
    rw [Go.WideShapes.add_plain] at h1
    exact ⟨b, o, rfl, by rw [e1]; exact h2, by rw [e1]; exact h1⟩

end Go.Proofs.YtneeljhjfmcdoaaDoor
