/- slices.Clone of integers. -/
import Derived.Test.YtjjkliifpdcliaaDoorSorted2
import Derived.Test.YtjjkliifpdcliaaDoorOwnNe
namespace Go.Proofs.YtjjkliifpdcliaaDoor
open Go.RowKit

set_option maxRecDepth 100000 in
set_option maxHeartbeats 1000000 in
theorem clone_any (v : Value) (b : Nat) (xs : List Int) (w : World) (h : IntsV w v b xs) (hn : xs.length ≤ 100000) :
    Calls Tryd.prog 31 #[v] w fun e w' => ∃ u, e = .returned u ∧ OwnI w' w.heap.size 3 u xs ∧ Upd [] w w' := by
  obtain ⟨i0, hi, hz0, hz1, hz2⟩ := info_parts Tryd.infoInt
  have HI := Lib.hid hi
  have HZ0 := Lib.hid hz0
  have HZ1 := Lib.hid hz1
  have HZ2 := Lib.hid hz2
  clear hi hz0 hz1 hz2
  rcases h.1 with ⟨rfl, rfl⟩ | ⟨c, rfl⟩
  · clear h
    have hq : ∀ W, (binOp BinOp.eql 27 (.slice none 0 0) (.slice none 0 0)).run Tryd.prog W = .ok (.bool true) W := fun _ => by kernel_rfl
    go_enter Tryd.func31, Tryd.ntmps31
    go_wp2_with fail
    go_ret
    exact ⟨_, rfl, OwnI.nil _ _ _, Upd.refl _ _⟩
  · have HX := Lib.hid h.2
    clear h
    have hq : ∀ W, (binOp BinOp.eql 27 (.slice (some ⟨b, 0, none⟩) xs.length c) (.slice none 0 0)).run Tryd.prog W = .ok (.bool false) W := fun _ => by kernel_rfl
    go_enter Tryd.func31, Tryd.ntmps31
    go_wp2_with (at_builtin; refine stop_here ?_)
    refine Hid.mk ?_
    have hrow : (w.alloc (.cells #[] 3)).ownsRow w.heap.size 3 1 (.slice (some ⟨w.heap.size, 0, none⟩) 0 0) 0 [] :=
      ⟨by simp, .inr ⟨w.heap.size, 0, #[], rfl, Nat.le_refl _, heap_alloc_new _ _, by omega, by simp [maxLen], by simp, by simp⟩⟩
    have hsrc : SrcV (w.alloc (.cells #[] 3)) (.slice (some ⟨b, 0, none⟩) xs.length c) xs.length (xs.map (Value.int .i64)) := by
      have h1 := src_row (w := w.alloc (.cells #[] 3)) (g := b) (xs := xs) (fun i hi => ((Upd.refl [] w).alloc _).cell (HX.out i hi) (by simp)) 0 xs.length c (by omega) 0 (.inl rfl)
      rwa [List.drop_zero, List.take_length] at h1
    refine (wpList_append_src rfl _ _ 27 rfl w.heap.size 3 i0 (.int .i64 0) 1 8 Tryd.underlying27 HI.out HZ0.out HZ1.out HZ2.out rfl (by decide) _ _ _ rfl hrow _ xs.length (xs.map (Value.int .i64)) rfl hsrc (by simp) (oneI _) (by unfold maxLen; omega) (by omega) (by simp) ?_)
    intro v' w6 hown hgr _
    have hu := ((Upd.refl [] w).alloc (.cells #[] 3)).grown hgr (fun q hq => .inr (by injection hq with hq; exact Nat.le_of_eq hq))
    rw [Nat.zero_add, List.nil_append] at hown
    have HO : Hid (OwnI w6 w.heap.size 3 v' xs) := hown
    have HU := Lib.hid hu
    obtain ⟨p2, c2, rfl⟩ := HO.out.shape
    clear hown hgr hu hrow hsrc
    go_wp2_with fail
    go_ret
    exact ⟨_, rfl, HO.out, HU.out⟩

end Go.Proofs.YtjjkliifpdcliaaDoor
