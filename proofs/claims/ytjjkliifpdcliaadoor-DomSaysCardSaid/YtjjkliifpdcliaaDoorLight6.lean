/- overdrivelaw6.light: is a graph small? -/
import Derived.Test.YtjjkliifpdcliaaDoorLists
namespace Go.Proofs.YtjjkliifpdcliaaDoor
open Go.RowKit

set_option maxHeartbeats 1000000 in
theorem light6_any (v : Value) (g : List (List Int)) (w : World) (h : RowsAt w v g) :
    Calls Tryd.prog 9 #[v] w fun e w' => ∃ b, e = .returned (.bool b) ∧ (b = true → g.length ≤ 40 ∧ ∀ l ∈ g, l.length ≤ 200) ∧ Upd [] w w' := by
  obtain ⟨a, cap, rfl, hl, hrow⟩ := h
  unfold maxLen at hl
  have HROW := Lib.hid hrow
  clear hrow
  go_enter Tryd.func9, Tryd.ntmps9
  go_wp2_with fail
  go_loopw [3, 4] (fun nv iv wr => ∃ i n : Nat, i ≤ g.length ∧ i ≤ 41 ∧ iv = .int .i64 i ∧ nv = .int .i64 n ∧ n ≤ i * 20000000000000 ∧ Hid (∀ k, k < i → (g.getD k []).length ≤ n) ∧ Upd [] w wr) (fun _ iv _ => g.length - (intOf iv).toNat)
  case atStart => exact ⟨0, 0, by omega, by omega, rfl, rfl, by omega, (fun k hk => by omega : ∀ k, k < 0 → _), Upd.refl _ _⟩
  case round =>
    obtain ⟨i, n, hi, hi41, rfl, rfl, hn, hb, hU⟩ := hrel
    by_cases hlt : i < g.length
    · have d1 : decide ((i : Int) < (g.length : Int)) = true := by simp; omega
      by_cases h40 : i ≤ 40
      · have d2 : decide ((i : Int) ≤ 40) = true := by simp; omega
        obtain ⟨b, o, rv, rfl, hcell, a2, cap2, rfl, hl2, _⟩ := HROW.out i hlt
        have hx := hU.cell hcell (by simp)
        have HX : Hid (∀ k, k < i + 1 → (g.getD k []).length ≤ n + (g.getD i []).length) := fun k hk => by
          by_cases e : k = i
          · subst e; omega
          · have := hb.out k (by omega); omega
        clear hcell
        generalize (g.getD i []).length = m at hx hl2 HX
        have hnm : n + m ≤ (i + 1) * 20000000000000 := by omega
        go_wp2_with fail
        go_roundw
        case rel => exact ⟨i + 1, n + m, by omega, by omega, by go_num, by go_num, hnm, HX.out, hU⟩
        case measure => simp [intOf]; omega
      · have d2 : decide ((i : Int) ≤ 40) = false := by simp; omega
        have d3 : decide ((g.length : Int) ≤ 40) = false := by simp; omega
        go_wp2_with fail
        go_ret
        exact ⟨_, rfl, by simp, hU⟩
    · obtain rfl : i = g.length := by omega
      have d1 : decide ((g.length : Int) < (g.length : Int)) = false := by simp
      by_cases h40 : g.length ≤ 40
      · have d3 : decide ((g.length : Int) ≤ 40) = true := by simp; omega
        by_cases h200 : n ≤ 200
        · have d4 : decide ((n : Int) ≤ 200) = true := by simp; omega
          go_wp2_with fail
          go_ret
          refine ⟨_, rfl, fun _ => ⟨h40, fun l hl3 => ?_⟩, hU⟩
          obtain ⟨k, hk, rfl⟩ := List.getElem_of_mem hl3
          have := hb.out k hk
          rw [List.getD_eq_getElem?_getD, List.getElem?_eq_getElem hk] at this
          simp only [Option.getD_some] at this
          omega
        · have d4 : decide ((n : Int) ≤ 200) = false := by simp; omega
          go_wp2_with fail
          go_ret
          exact ⟨_, rfl, by simp, hU⟩
      · have d3 : decide ((g.length : Int) ≤ 40) = false := by simp; omega
        go_wp2_with fail
        go_ret
        exact ⟨_, rfl, by simp, hU⟩

end Go.Proofs.YtjjkliifpdcliaaDoor
