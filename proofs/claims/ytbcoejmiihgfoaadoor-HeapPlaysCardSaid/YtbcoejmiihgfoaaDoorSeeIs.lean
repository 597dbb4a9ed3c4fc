/- overdrivesee.Is. -/
import Derived.Test.YtbcoejmiihgfoaaDoorSee
namespace Go.Proofs.YtbcoejmiihgfoaaDoor
open Go.RowKit Go.ChangeShapes

set_option maxRecDepth 100000 in
set_option maxHeartbeats 400000 in
theorem is_at (E : Nat → Addr) (k : Nat) (hk : k < 14) (c : Int) (w : World) (h : SentAll w E) :
  Calls Tryd.prog 8 #[sErr E k, .int .i64 c] w fun e w' => e = .returned (.bool ((101 + (k : Int)) == c)) ∧ Upd [] w w' := by
 have H := Lib.hid h
 clear h
 unfold sErr
 go_enter Tryd.func8, Tryd.ntmps8
 go_wp2_with fail
 refine (bare_any _ _).mono ?_
 rintro e w1 ⟨rfl, hu1⟩
 have H1 := Lib.hid (H.out.upd hu1)
 go_wp2_with fail
 have h2 := same_at E k hk c _ H1.out
 unfold sErr at h2
 refine h2.mono ?_
 clear h2
 rintro e w2 ⟨rfl, hu2⟩
 go_wp2_with fail
 go_ret
 exact ⟨rfl, hu1.trans hu2⟩

end Go.Proofs.YtbcoejmiihgfoaaDoor
