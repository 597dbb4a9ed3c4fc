/- The library's table of the trailing zeros, read off what is laid. -/
import Derived.Test.YtbcoejmiihgfoaaDoorFrame
import Derived.Test.YtbcoejmiihgfoaaDoorEach
import Derived.Lib.LaidTab
import Derived.Lib.LaidU8
namespace Go.Proofs.YtbcoejmiihgfoaaDoor
open Go.RowKit Go.ChangeShapes Go.WideShapes Go.Deep

theorem tz_of_laid {W : World} (h : laidMetH Tryd.prog [("math/bits.deBruijn64tab", Rows.laid_math_bits_deBruijn64tab)] W) : TzAt W := by
 have h2 : laidMet Tryd.prog [("math/bits.deBruijn64tab", Lib.tabData .u8 (Lib.deBruijn64tab.map fun (x : Nat) => (x : Int)))] W := h
 have hT := Lib.tabIs_of_head (g := 1) (n := 64) (by kernel_rfl) (by kernel_rfl) Tryd.underlying116 Tryd.underlying5 (by kernel_rfl) (by kernel_rfl) h2
 intro j hj
 have := hT.cell (g := 1) (by kernel_rfl) j (by simpa using hj)
 rw [this]
 simp [List.getD_eq_getElem?_getD, List.getElem?_eq_getElem hj]

/-- The same where more is laid behind it. -/
theorem tz_of_laidT {W : World} {rest : List (String × DataW Unit)} (h : laidMet Tryd.prog (("math/bits.deBruijn64tab", Rows.laid_math_bits_deBruijn64tab) :: rest) W) : TzAt W := by
 have h2 : laidMet Tryd.prog (("math/bits.deBruijn64tab", Lib.tabData .u8 (Lib.deBruijn64tab.map fun (x : Nat) => (x : Int))) :: rest) W := h
 have hT := Lib.tabIs_of_head (g := 1) (n := 64) (by kernel_rfl) (by kernel_rfl) Tryd.underlying116 Tryd.underlying5 (by kernel_rfl) (by kernel_rfl) h2
 intro j hj
 have := hT.cell (g := 1) (by kernel_rfl) j (by simpa using hj)
 rw [this]
 simp [List.getD_eq_getElem?_getD, List.getElem?_eq_getElem hj]

end Go.Proofs.YtbcoejmiihgfoaaDoor
