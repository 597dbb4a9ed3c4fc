/- overdriveref.Among: is a number among others? -/
import Derived.Test.YtjjkliifpdcliaaDoorRows
import Derived.Test.YtjjkliifpdcliaaDoorPrg
import Derived.Test.YtjjkliifpdcliaaDoorInts
import Derived.Deep.DeepCutAuto
import Derived.Deep.QuietTactic
import Derived.BigQuiet
import Derived.StillTailTactics
namespace Go.Proofs.YtjjkliifpdcliaaDoor
open Go.RowKit


set_option maxHeartbeats 400000 in
theorem among_any (v : Value) (b : Nat) (xs : List Int) (x : Int) (w : World) (h : IntsV w v b xs) (hn : xs.length ≤ 1000000) :
    Calls Tryd.prog 14 #[v, .int .i64 x] w fun e w' => e = .returned (.bool (decide (x ∈ xs))) ∧ w = w' := by
  obtain ⟨p, c, rfl⟩ := h.form
  go_enter Tryd.func14, Tryd.ntmps14
  go_wp2_with fail
  go_loopw [5] (fun i wr => ∃ k : Nat, k ≤ xs.length ∧ i = .int .i64 k ∧ w = wr ∧ Hid (∀ j, j < k → xs.getD j 0 ≠ x)) (fun i _ => xs.length - (intOf i).toNat)
  case atStart => exact ⟨0, by omega, rfl, rfl, (fun j hj => by omega : ∀ j, j < 0 → _)⟩
  case round =>
    obtain ⟨k, hk, rfl, rfl, HK⟩ := hrel
    by_cases hlt : k < xs.length
    · obtain ⟨rfl, h2⟩ := sints_nth _ _ _ _ _ h k hlt
      have HX := Lib.hid (rfl : xs.getD k 0 = xs.getD k 0)
      generalize hy : xs.getD k 0 = y at h2 HX
      have HY := Lib.hid hy
      clear hy
      by_cases hyx : y = x
      · have e1 : (y == x) = true := by rw [beq_iff_eq]; exact hyx
        have HE := Lib.hid hyx
        clear hyx
        go_wp2_with fail
        go_ret
        have : x ∈ xs := by
          rw [List.getD_eq_getElem?_getD, List.getElem?_eq_getElem hlt] at HY
          have h3 := HY.out
          rw [HE.out] at h3
          simp only [Option.getD_some] at h3
          rw [← h3]; exact List.getElem_mem hlt
        exact ⟨by rw [decide_eq_true this]; rfl, rfl⟩
      · have e1 : (y == x) = false := by rw [beq_eq_false_iff_ne]; exact hyx
        have HE := Lib.hid hyx
        clear hyx
        go_wp2_with fail
        go_roundw
        case rel =>
          refine ⟨k + 1, by omega, by go_num, trivial, (fun j hj => ?_ : ∀ j, j < k + 1 → _)⟩
          by_cases e : j = k
          · subst e; rw [HY.out]; exact HE.out
          · exact HK.out j (by omega)
        case measure => simp [intOf]; omega
    · obtain rfl : k = xs.length := by omega
      go_wp2_with fail
      go_ret
      have : x ∉ xs := by
        intro hm
        obtain ⟨j, hj, rfl⟩ := List.getElem_of_mem hm
        have := HK.out j hj
        rw [List.getD_eq_getElem?_getD, List.getElem?_eq_getElem hj] at this
        exact this rfl
      exact ⟨by rw [decide_eq_false this]; rfl, rfl⟩

end Go.Proofs.YtjjkliifpdcliaaDoor
