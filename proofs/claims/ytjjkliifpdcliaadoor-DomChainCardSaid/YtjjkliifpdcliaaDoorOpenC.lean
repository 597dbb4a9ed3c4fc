/- A [][]int that comes in: its length is within its capacity. -/
import Derived.Test.YtjjkliifpdcliaaDoorOpenL
namespace Go.Proofs.YtjjkliifpdcliaaDoor
open Go.RowKit Go.ChangeShapes Go.WideShapes Go.Deep

/-- A slice value's length is within its capacity. -/
def CapOk (v : Value) : Prop := ∀ a n c, v = .slice a n c → n ≤ c

section
variable {H : Type} {enc : TypeId × Value → H} {W : World}

theorem open_cap {v : Value} {d : DataW H} {p : List MemPlace} (hv : ∃ a len cap, v = .slice a len cap) (h : DataW.Trod enc Tryd.prog W 0 (fun _ => true) true 22 v d p) : CapOk v := by
  obtain ⟨a0, len0, cap0, rfl⟩ := hv
  obtain ⟨fuel, hf⟩ := h
  intro a1 n1 c1 e
  injection e with e1 e2 e3
  subst e1
  subst e2
  subst e3
  rcases open_int_rows (k := .i64) Tryd.underlying22 Tryd.underlying27 Tryd.underlying3 (by kernel_rfl) (by kernel_rfl) hf with ⟨hcs, _⟩ | ⟨a, len, cap, A, L, C, Z, hcs, _, hl, hm, hx, hr⟩
  · simp [Value.cells] at hcs
    obtain ⟨rfl, rfl, rfl⟩ := hcs
    exact Nat.le_refl _
  · simp [Value.cells] at hcs
    obtain ⟨rfl, rfl, rfl⟩ := hcs
    omega

end
end Go.Proofs.YtjjkliifpdcliaaDoor
