/- The walk of ArenaSpaces. -/
import Derived.Test.YtlddnpcpioligaaDoorSp
namespace Go.Proofs.YtlddnpcpioligaaDoor
open Go.RowKit

set_option maxRecDepth 100000 in
set_option maxHeartbeats 4000000 in
theorem spaces_long (x0 x1 r fr sz : Int) (_p0 : 0 ≤ fr) (_p1 : fr < 1024) (_p2 : 0 ≤ sz) (_p3 : sz < 1024) (m0 : bits BinOp.and IntKind.i64 x0 1023 = fr) (m1 : bits BinOp.and IntKind.i64 x1 1023 = sz) (a : Option Addr) (n cap : Nat) (w : World) (h60 : 60 < n) (hm : n ≤ 9223372036854775807) :
    Calls Tryd.prog 3 #[.int .i64 x0, .int .i64 x1, .slice a n cap, .int .i64 r] w fun e w' => e = .returned (.bool true) ∧ Upd [] w w' := by
  go_enter Tryd.func3, Tryd.ntmps3
  go_wp2_with fail
  refine (first_any _).mono ?_
  rintro e w1 ⟨rfl, hu⟩
  go_wp2_with fail
  go_ret
  exact ⟨rfl, hu⟩

set_option maxRecDepth 100000 in
set_option maxHeartbeats 4000000 in
theorem spaces_nil (x0 x1 r fr sz : Int) (p0 : 0 ≤ fr) (p1 : fr < 1024) (p2 : 0 ≤ sz) (p3 : sz < 1024) (m0 : bits BinOp.and IntKind.i64 x0 1023 = fr) (m1 : bits BinOp.and IntKind.i64 x1 1023 = sz) (a : Option Addr) (cap : Nat) (w : World) :
    Calls Tryd.prog 3 #[.int .i64 x0, .int .i64 x1, .slice a 0 cap, .int .i64 r] w fun e w' => e = .returned (.bool true) ∧ Upd [] w w' := by
  go_enter Tryd.func3, Tryd.ntmps3
  go_wp2_with fail
  refine (first_any _).mono ?_
  rintro e w1 ⟨rfl, hu⟩
  go_wp2_with fail
  go_loopw [11, 12] (fun us i wr => ∃ (k : Nat) (u : Int), k ≤ 0 ∧ i = .int .i64 k ∧ us = .int .i64 u ∧ 0 ≤ u ∧ u ≤ sz ∧ SpB wr w1.heap.size fr (fr + sz) (fr + u) ∧ Upd [] w wr) (fun _ i _ => 0 - (intOf i).toNat)
  case atStart =>
    refine ⟨0, 0, by omega, rfl, rfl, by omega, by omega, ?_, hu.alloc _⟩
    have := heap_alloc_new w1 (.cells #[.int .i64 fr, .int .i64 (fr + sz), .int .i64 fr] 25)
    simpa [SpB] using this
  case round =>
    obtain ⟨k, u, hk, rfl, rfl, hu0, hu1, hS, hU⟩ := hrel
    by_cases hlt : k < 0
    · exact absurd hlt (by omega)
    · obtain rfl : k = 0 := by omega
      go_wp2_with fail
      refine (hasB_no _ _ _ _ _ _ hS (by omega)).mono ?_
      rintro e w' ⟨rfl, rfl⟩
      go_wp2_with fail
      refine (hasB_no _ _ _ _ _ _ hS (by omega)).mono ?_
      rintro e w' ⟨rfl, rfl⟩
      have hc0 := hS.c0
      have hc1 := hS.c1
      go_wp2_with fail
      go_ret
      exact ⟨rfl, hU⟩

set_option maxRecDepth 100000 in
set_option maxHeartbeats 4000000 in
theorem spaces_some (x0 x1 r fr sz : Int) (p0 : 0 ≤ fr) (p1 : fr < 1024) (p2 : 0 ≤ sz) (p3 : sz < 1024) (m0 : bits BinOp.and IntKind.i64 x0 1023 = fr) (m1 : bits BinOp.and IntKind.i64 x1 1023 = sz) (b o : Nat) (xs : List Int) (cap : Nat) (w : World) (hn : xs.length ≤ 60) (HB : Hid (∀ i, i < xs.length → -9223372036854775808 ≤ xs.getD i 0 ∧ xs.getD i 0 ≤ 9223372036854775807)) (HX : Hid (∀ i, i < xs.length → w.cell? ⟨b, o + i, none⟩ = some (.int .i64 (xs.getD i 0)))) :
    Calls Tryd.prog 3 #[.int .i64 x0, .int .i64 x1, .slice (some ⟨b, o, none⟩) xs.length cap, .int .i64 r] w fun e w' => e = .returned (.bool true) ∧ Upd [] w w' := by
  go_enter Tryd.func3, Tryd.ntmps3
  go_wp2_with fail
  refine (first_any _).mono ?_
  rintro e w1 ⟨rfl, hu⟩
  go_wp2_with fail
  go_loopw [11, 12] (fun us i wr => ∃ (k : Nat) (u : Int), k ≤ xs.length ∧ i = .int .i64 k ∧ us = .int .i64 u ∧ 0 ≤ u ∧ u ≤ sz ∧ SpB wr w1.heap.size fr (fr + sz) (fr + u) ∧ Upd [] w wr) (fun _ i _ => xs.length - (intOf i).toNat)
  case atStart =>
    refine ⟨0, 0, by omega, rfl, rfl, by omega, by omega, ?_, hu.alloc _⟩
    have := heap_alloc_new w1 (.cells #[.int .i64 fr, .int .i64 (fr + sz), .int .i64 fr] 25)
    simpa [SpB] using this
  case round =>
    obtain ⟨k, u, hk, rfl, rfl, hu0, hu1, hS, hU⟩ := hrel
    by_cases hlt : k < xs.length
    · have hx0 := HX.out k hlt
      have hxb := HB.out k hlt
      generalize xs.getD k 0 = x at *
      by_cases hkr : (k : Int) = r
      · obtain rfl := hkr
        go_wp2_with fail
        refine (resetB _ _ _ _ _ hS).mono ?_
        rintro e w2 ⟨rfl, hS2, hU2⟩
        have hU2' : Upd [] w w2 := hU.trans' hU2 (by intro i hi h2; simp at hi; have := hu.size; omega)
        go_wp2_with fail
        refine (roomB _ _ _ _ _ hS2 (by omega) (by omega) (by omega)).mono ?_
        rintro e w3 ⟨rfl, hS3, hU3⟩
        have hU3' : Upd [] w w3 := hU2'.trans' hU3 (by intro i hi h2; simp at hi; have := hu.size; omega)
        have hc3 := hS3.c2
        have hx3 : w3.cell? ⟨b, o + k, none⟩ = some (.int .i64 x) := hU3'.cell hx0 (by simp)
        go_wp2_with fail
        by_cases hgood : 1 ≤ x ∧ x ≤ sz - 0
        · obtain ⟨hg1, hg2⟩ := hgood
          have d1 : decide (1 ≤ x) = true := by simpa using hg1
          have d2 : decide (x ≤ sz - 0) = true := by simpa using hg2
          refine (takeB_yes _ _ _ _ _ _ hS3 (by omega) (by omega) (by omega) (by omega) (by omega)).mono ?_
          rintro e w4 ⟨rfl, hS4, hU4⟩
          have hU4' : Upd [] w w4 := hU3'.trans' hU4 (by intro i hi h2; simp at hi; have := hu.size; omega)
          have hx4 : w4.cell? ⟨b, o + k, none⟩ = some (.int .i64 x) := hU4'.cell hx0 (by simp)
          clear hx3 hc3
          go_wp2_with fail
          refine (hasB_yes _ _ _ _ _ _ hS4 (by omega) (by omega)).mono ?_
          rintro e w' ⟨rfl, rfl⟩
          go_wp2_with fail
          refine (hasB_yes _ _ _ _ _ _ hS4 (by omega) (by omega)).mono ?_
          rintro e w' ⟨rfl, rfl⟩
          go_wp2_with fail
          refine (hasB_no _ _ _ _ _ _ hS4 (by omega)).mono ?_
          rintro e w' ⟨rfl, rfl⟩
          go_wp2_with fail
          go_roundw
          case rel => exact ⟨k + 1, x, by omega, by go_num, by go_num, by omega, by omega, hS4, hU4'⟩
          case measure => simp [intOf]; omega
        · refine (takeB_no _ _ _ _ _ _ hS3 (by omega) (by omega) (by omega) (by omega)).mono ?_
          rintro e w4 ⟨rfl, hS4, hU4⟩
          have hU4' : Upd [] w w4 := hU3'.trans' hU4 (by intro i hi h2; simp at hi; have := hu.size; omega)
          have hx4 : w4.cell? ⟨b, o + k, none⟩ = some (.int .i64 x) := hU4'.cell hx0 (by simp)
          clear hx3 hc3
          by_cases hg1 : 1 ≤ x
          · have d1 : decide (1 ≤ x) = true := by simpa using hg1
            have d2 : decide (x ≤ sz - 0) = false := by simp; omega
            go_wp2_with fail
            go_roundw
            case rel => exact ⟨k + 1, 0, by omega, by go_num, by go_num, by omega, by omega, by simpa using hS4, hU4'⟩
            case measure => simp [intOf]; omega
          · have d1 : decide (1 ≤ x) = false := by simpa using hg1
            go_wp2_with fail
            go_roundw
            case rel => exact ⟨k + 1, 0, by omega, by go_num, by go_num, by omega, by omega, by simpa using hS4, hU4'⟩
            case measure => simp [intOf]; omega
      · have hb0 : ((k : Int) == r) = false := by rw [beq_eq_false_iff_ne]; exact hkr
        go_wp2_with fail
        refine (roomB _ _ _ _ _ hS (by omega) (by omega) (by omega)).mono ?_
        rintro e w3 ⟨rfl, hS3, hU3⟩
        have hU3' : Upd [] w w3 := hU.trans' hU3 (by intro i hi h2; simp at hi; have := hu.size; omega)
        have hc3 := hS3.c2
        have hx3 : w3.cell? ⟨b, o + k, none⟩ = some (.int .i64 x) := hU3'.cell hx0 (by simp)
        go_wp2_with fail
        by_cases hgood : 1 ≤ x ∧ x ≤ sz - u
        · obtain ⟨hg1, hg2⟩ := hgood
          have d1 : decide (1 ≤ x) = true := by simpa using hg1
          have d2 : decide (x ≤ sz - u) = true := by simpa using hg2
          refine (takeB_yes _ _ _ _ _ _ hS3 (by omega) (by omega) (by omega) (by omega) (by omega)).mono ?_
          rintro e w4 ⟨rfl, hS4, hU4⟩
          have hU4' : Upd [] w w4 := hU3'.trans' hU4 (by intro i hi h2; simp at hi; have := hu.size; omega)
          have hx4 : w4.cell? ⟨b, o + k, none⟩ = some (.int .i64 x) := hU4'.cell hx0 (by simp)
          clear hx3 hc3
          go_wp2_with fail
          refine (hasB_yes _ _ _ _ _ _ hS4 (by omega) (by omega)).mono ?_
          rintro e w' ⟨rfl, rfl⟩
          go_wp2_with fail
          refine (hasB_yes _ _ _ _ _ _ hS4 (by omega) (by omega)).mono ?_
          rintro e w' ⟨rfl, rfl⟩
          go_wp2_with fail
          refine (hasB_no _ _ _ _ _ _ hS4 (by omega)).mono ?_
          rintro e w' ⟨rfl, rfl⟩
          go_wp2_with fail
          go_roundw
          case rel => exact ⟨k + 1, u + x, by omega, by go_num, by go_num, by omega, by omega, by rw [← Int.add_assoc]; exact hS4, hU4'⟩
          case measure => simp [intOf]; omega
        · refine (takeB_no _ _ _ _ _ _ hS3 (by omega) (by omega) (by omega) (by omega)).mono ?_
          rintro e w4 ⟨rfl, hS4, hU4⟩
          have hU4' : Upd [] w w4 := hU3'.trans' hU4 (by intro i hi h2; simp at hi; have := hu.size; omega)
          have hx4 : w4.cell? ⟨b, o + k, none⟩ = some (.int .i64 x) := hU4'.cell hx0 (by simp)
          clear hx3 hc3
          by_cases hg1 : 1 ≤ x
          · have d1 : decide (1 ≤ x) = true := by simpa using hg1
            have d2 : decide (x ≤ sz - u) = false := by simp; omega
            go_wp2_with fail
            go_roundw
            case rel => exact ⟨k + 1, u, by omega, by go_num, by go_num, by omega, by omega, hS4, hU4'⟩
            case measure => simp [intOf]; omega
          · have d1 : decide (1 ≤ x) = false := by simpa using hg1
            go_wp2_with fail
            go_roundw
            case rel => exact ⟨k + 1, u, by omega, by go_num, by go_num, by omega, by omega, hS4, hU4'⟩
            case measure => simp [intOf]; omega
    · obtain rfl : k = xs.length := by omega
      go_wp2_with fail
      refine (hasB_no _ _ _ _ _ _ hS (by omega)).mono ?_
      rintro e w' ⟨rfl, rfl⟩
      go_wp2_with fail
      refine (hasB_no _ _ _ _ _ _ hS (by omega)).mono ?_
      rintro e w' ⟨rfl, rfl⟩
      have hc0 := hS.c0
      have hc1 := hS.c1
      go_wp2_with fail
      go_ret
      exact ⟨rfl, hU⟩

theorem spaces_any (x0 x1 r : Int) (v : Value) (xs : List Int) (w : World) (hx : IntsAt w v xs) :
    Calls Tryd.prog 3 #[.int .i64 x0, .int .i64 x1, v, .int .i64 r] w fun e w' => e = .returned (.bool true) ∧ Upd [] w w' := by
  obtain ⟨a, cap, rfl, hcap, hmax, hbd, hor⟩ := hx
  have hm := Nat.le_trans hcap hmax
  unfold maxLen at hm
  by_cases h60 : 60 < xs.length
  · exact spaces_long x0 x1 r _ _ (by omega) (by omega) (by omega) (by omega) (and_1023 x0) (and_1023 x1) a _ cap w h60 (by omega)
  · rcases hor with rfl | ⟨b, o, rfl, hc⟩
    · exact spaces_nil x0 x1 r _ _ (by omega) (by omega) (by omega) (by omega) (and_1023 x0) (and_1023 x1) a cap w
    · refine spaces_some x0 x1 r _ _ (by omega) (by omega) (by omega) (by omega) (and_1023 x0) (and_1023 x1) b o xs cap w (by omega) (fun i hi => ?_) hc
      have e : xs.getD i 0 = xs[i] := by simp [hi]
      rw [e]
      exact hbd _ (List.getElem_mem hi)

end Go.Proofs.YtlddnpcpioligaaDoor
