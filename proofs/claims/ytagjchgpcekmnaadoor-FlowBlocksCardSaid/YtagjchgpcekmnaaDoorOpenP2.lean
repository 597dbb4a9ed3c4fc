/- An api.Program that comes in, opened: at whatever bound. -/
import Derived.Test.YtagjchgpcekmnaaDoorOpenP
namespace Go.Proofs.YtagjchgpcekmnaaDoor
open Go.RowKit Go.ChangeShapes Go.WideShapes Go.Deep
section
variable {H : Type} {enc : TypeId × Value → H} {W : World}
set_option maxRecDepth 100000 in
theorem open_program2 {bs : Nat} {v : Value} {d : DataW H} {p : List MemPlace} (hv : Value.okWide Tryd.prog W .any bs 25 v) (h : DataW.Trod enc Tryd.prog W 0 (fun _ => true) true 25 v d p) :
    ∃ cv mv cs ms, v = .agg #[cv, mv] ∧ ClassAt W cv cs ∧ MethsAt W mv ms := by
  obtain ⟨xs, rfl, hsz⟩ := okWide_struct Tryd.underlying25 hv
  have h2 : xs.size = 2 := hsz.trans (by kernel_rfl)
  obtain ⟨cv, mv, rfl⟩ : ∃ a b, xs = #[a, b] := by
    obtain ⟨l⟩ := xs
    match l, h2 with
    | [a, b], _ => exact ⟨a, b, rfl⟩
  obtain ⟨fuel, hf⟩ := h
  obtain ⟨ys, n, _, _, _, hyl, hg⟩ := DataW.trod_struct Tryd.underlying25 hf
  have g0 := hg 0 _ rfl
  have g1 := hg 1 _ rfl
  have l2 : ys.length = 2 := hyl
  rw [List.getElem?_eq_getElem (by omega)] at g0 g1
  obtain ⟨cs, hc⟩ := open_class g0
  obtain ⟨ms, hm⟩ := open_meths g1
  exact ⟨cv, mv, cs, ms, rfl, hc, hm⟩
end
end Go.Proofs.YtagjchgpcekmnaaDoor
