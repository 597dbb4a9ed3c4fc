/- prog.letters, uses; strings.Trim and slices.Contains as they are asked there. -/
import Derived.Test.YtjndigfmemdmjaaDoorShelf
import Derived.Test.YtjndigfmemdmjaaDoorLetL
import Derived.Shelf.Strings.SlTrimAscii
namespace Go.Proofs.YtjndigfmemdmjaaDoor
open Go.RowKit

theorem trim_any (s : ByteArray) (w : World) (hs : s.size ≤ 1000000000000000) :
    Calls Tryd.prog 52 #[.string s, .string ⟨#[73, 82]⟩] w fun e w' => e = .returned (.string (bs (Lib.trimS s.data.toList [73, 82]))) ∧ Upd [] w w' :=
  (Any.strings_Trim_laid Tryd.lays160 (by kernel_rfl) s ⟨#[73, 82]⟩ w (by omega) (by decide) (ascii_of_all (by decide))).mono fun _ _ ⟨h1, h2⟩ => ⟨h1, Upd.of_below h2⟩

set_option maxRecDepth 100000 in
set_option maxHeartbeats 1000000 in
theorem pletters_any (s : ByteArray) (w : World) (hs : s.size ≤ 1000000000000000) :
    Calls Tryd.prog 41 #[.string s] w fun e w' => e = .returned (.bool (lettersB s)) ∧ Upd [] w w' := by
  have he : ((bs (Lib.trimS s.data.toList [73, 82])).toList == []) = lettersB s := by
    rw [bs_list, Bool.eq_iff_iff, ← letters_trim, beq_iff_eq]
  have HE := Lib.hid he
  clear he
  go_enter Tryd.func41, Tryd.ntmps41
  go_wp2_with fail
  refine (trim_any s _ hs).mono ?_
  rintro e w' ⟨rfl, hu⟩
  generalize bs (Lib.trimS s.data.toList [73, 82]) = t at HE ⊢
  go_wp2_with fail
  go_ret
  exact ⟨by rw [← HE.out]; cases t.toList <;> rfl, hu⟩
end Go.Proofs.YtjndigfmemdmjaaDoor
