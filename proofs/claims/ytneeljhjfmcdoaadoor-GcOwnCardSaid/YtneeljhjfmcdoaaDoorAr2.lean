/- Walks of the functions of package arena: New, Copy, Clear, Unpack, the spaces. -/
import Derived.Test.YtneeljhjfmcdoaaDoorAr
import Derived.Test.YtneeljhjfmcdoaaDoorInts
namespace Go.Proofs.YtneeljhjfmcdoaaDoor
open Go.RowKit

theorem Tryd.info2 : (Tryd.prog.info? 2).map (fun i => (i.zero, i.size, i.bytes)) = some (some (.int .i64 0), 1, 8) := by kernel_rfl

set_option maxHeartbeats 400000 in
theorem new_ok (n : Int) (w : World) (h0 : 0 ≤ n) (h1 : n ≤ 65536) :
    Calls Tryd.prog 45 #[.int .i64 n] w fun e w' => e = .returned (.tuple #[.pointer (some ⟨w.heap.size + 1, 0, none⟩), .nilIface]) ∧ ArAt w' (w.heap.size + 1) w.heap.size (List.replicate n.toNat 0) ∧ Upd [] w w' ∧ w'.heap.size = w.heap.size + 2 := by
  obtain ⟨k, rfl⟩ := Int.eq_ofNat_of_zero_le h0
  obtain ⟨i0, hi, hz0, hz1, hz2⟩ := info_parts Tryd.info2
  have hmk := fun w => run_make (P := Tryd.prog) w 70 2 i0 (.int .i64 0) Tryd.underlying70 hi hz0 .i64 .i64 (k : Int) (k : Int) (by omega) (by omega) (by rw [hz2]; omega) (by omega)
  rw [hz1, Nat.mul_one] at hmk
  simp only [madeCells_zero, Int.toNat_natCast] at hmk
  clear hz0 hz1 hz2 hi
  go_enter Tryd.func45, Tryd.ntmps45
  go_wp2
  go_ret2
  refine ⟨rfl, ⟨?_, ?_, by simp; omega⟩, ?_, by simp⟩
  · have := heap_alloc_new (w.alloc (.cells (icells (List.replicate k 0)) 2)) (.cells #[.slice (some ⟨w.heap.size, 0, none⟩) k k] 136)
    simpa using this
  · have h1 := heap_alloc_new w (.cells (icells (List.replicate k 0)) 2)
    rw [Below.heap_alloc _ _ _ (by simp)]
    simpa using h1
  · exact ((Upd.refl _ _).alloc _).alloc _

set_option maxHeartbeats 400000 in
theorem there_no (b g : Nat) (xs : List Int) (i n : Int) (w : World) (h : ArAt w b g xs) (h0 : i < 0 ∨ xs.length < i ∨ xs.length - i < n) :
    Calls Tryd.prog 92 #[.pointer (some ⟨b, 0, none⟩), .int .i64 i, .int .i64 n] w fun e w' => e = .returned (.bool false) ∧ w = w' := by
  have hb := h.cell
  have hl := h.2.2
  by_cases c0 : 0 ≤ i
  · by_cases c1 : i ≤ (xs.length : Int)
    · have d0 : decide (0 ≤ i) = true := by simpa using c0
      have d1 : decide (i ≤ (xs.length : Int)) = true := by simpa using c1
      have d2 : decide (n ≤ (xs.length : Int) - i) = false := by simp; omega
      go_enter Tryd.func92, Tryd.ntmps92
      go_wp2
      go_ret
      exact ⟨rfl, rfl⟩
    · have d0 : decide (0 ≤ i) = true := by simpa using c0
      have d1 : decide (i ≤ (xs.length : Int)) = false := by simpa using c1
      go_enter Tryd.func92, Tryd.ntmps92
      go_wp2
      go_ret
      exact ⟨rfl, rfl⟩
  · have d0 : decide (0 ≤ i) = false := by simpa using c0
    go_enter Tryd.func92, Tryd.ntmps92
    go_wp2
    go_ret
    exact ⟨rfl, rfl⟩

set_option maxHeartbeats 400000 in
theorem room_any (b o : Nat) (to top : Int) (w : World) (_h0 : 0 ≤ top) (_h1 : top ≤ to) (_h2 : to ≤ 1000000000)
    (hto : w.cell? ⟨b, o + 1, none⟩ = some (.int .i64 to)) (htop : w.cell? ⟨b, o + 2, none⟩ = some (.int .i64 top)) :
    Calls Tryd.prog 52 #[.pointer (some ⟨b, o, none⟩)] w fun e w' => e = .returned (.int .i64 (to - top)) ∧ ∃ n, w' = w.drewN n := by
  go_enter Tryd.func52, Tryd.ntmps52
  go_wp2
  go_quiet (fail)
  go_wp2
  go_ret
  exact ⟨rfl, _, rfl⟩

set_option maxHeartbeats 400000 in
theorem take_yes (b o : Nat) (to top n : Int) (w : World) (h0 : 0 ≤ top) (h1 : top ≤ to) (h2 : to ≤ 1000000000) (hn : 1 ≤ n) (hn2 : n ≤ to - top)
    (hto : w.cell? ⟨b, o + 1, none⟩ = some (.int .i64 to)) (htop : w.cell? ⟨b, o + 2, none⟩ = some (.int .i64 top)) (hf : w.frozen? ⟨b, o + 2, none⟩ = false) :
    Calls Tryd.prog 68 #[.pointer (some ⟨b, o, none⟩), .int .i64 n] w fun e w' => e = .returned (.tuple #[.int .i64 top, .bool true]) ∧ ∃ m, w' = (w.setCell ⟨b, o + 2, none⟩ (.int .i64 (top + n))).drewN m := by
  go_enter Tryd.func68, Tryd.ntmps68
  go_wp2_with (go_at_call 52; refine (room_any _ _ to top _ h0 h1 h2 hto htop).mono ?_; rintro e w' ⟨rfl, m, rfl⟩)
  go_ret2
  exact ⟨rfl, _, rfl⟩

set_option maxHeartbeats 400000 in
theorem take_no (b o : Nat) (to top n : Int) (w : World) (h0 : 0 ≤ top) (h1 : top ≤ to) (h2 : to ≤ 1000000000) (hn : n < 1 ∨ to - top < n)
    (hto : w.cell? ⟨b, o + 1, none⟩ = some (.int .i64 to)) (htop : w.cell? ⟨b, o + 2, none⟩ = some (.int .i64 top)) :
    Calls Tryd.prog 68 #[.pointer (some ⟨b, o, none⟩), .int .i64 n] w fun e w' => e = .returned (.tuple #[.int .i64 0, .bool false]) ∧ ∃ m, w' = w.drewN m := by
  by_cases hn1 : n < 1
  · go_enter Tryd.func68, Tryd.ntmps68
    go_wp2_with (go_at_call 52; refine (room_any _ _ to top _ h0 h1 h2 hto htop).mono ?_; rintro e w' ⟨rfl, m, rfl⟩)
    go_ret2
    exact ⟨rfl, 0, rfl⟩
  · go_enter Tryd.func68, Tryd.ntmps68
    go_wp2_with (go_at_call 52; refine (room_any _ _ to top _ h0 h1 h2 hto htop).mono ?_; rintro e w' ⟨rfl, m, rfl⟩)
    go_ret2
    exact ⟨rfl, _, rfl⟩

set_option maxHeartbeats 400000 in
theorem has_yes (b o : Nat) (from_ top i : Int) (w : World) (h0 : from_ ≤ i) (h1 : i < top)
    (hfrom : w.cell? ⟨b, o, none⟩ = some (.int .i64 from_)) (htop : w.cell? ⟨b, o + 2, none⟩ = some (.int .i64 top)) :
    Calls Tryd.prog 67 #[.pointer (some ⟨b, o, none⟩), .int .i64 i] w fun e w' => e = .returned (.bool true) ∧ w = w' := by
  have d0 : decide (from_ ≤ i) = true := by simpa using h0
  have d1 : decide (i < top) = true := by simpa using h1
  go_enter Tryd.func67, Tryd.ntmps67
  go_wp2
  go_ret
  exact ⟨rfl, rfl⟩

set_option maxHeartbeats 400000 in
theorem has_no (b o : Nat) (from_ top i : Int) (w : World) (h0 : i < from_ ∨ top ≤ i)
    (hfrom : w.cell? ⟨b, o, none⟩ = some (.int .i64 from_)) (htop : w.cell? ⟨b, o + 2, none⟩ = some (.int .i64 top)) :
    Calls Tryd.prog 67 #[.pointer (some ⟨b, o, none⟩), .int .i64 i] w fun e w' => e = .returned (.bool false) ∧ w = w' := by
  by_cases c : from_ ≤ i
  · have d0 : decide (from_ ≤ i) = true := by simpa using c
    have d1 : decide (i < top) = false := by simp; omega
    go_enter Tryd.func67, Tryd.ntmps67
    go_wp2
    go_ret
    exact ⟨rfl, rfl⟩
  · have d0 : decide (from_ ≤ i) = false := by simpa using c
    go_enter Tryd.func67, Tryd.ntmps67
    go_wp2
    go_ret
    exact ⟨rfl, rfl⟩

set_option maxHeartbeats 400000 in
theorem reset_any (b o : Nat) (from_ : Int) (v : Value) (w : World)
    (hfrom : w.cell? ⟨b, o, none⟩ = some (.int .i64 from_)) (htop : w.cell? ⟨b, o + 2, none⟩ = some v) (hf : w.frozen? ⟨b, o + 2, none⟩ = false) :
    Calls Tryd.prog 73 #[.pointer (some ⟨b, o, none⟩)] w fun e w' => e = .returned (.tuple #[]) ∧ w' = w.setCell ⟨b, o + 2, none⟩ (.int .i64 from_) := by
  go_enter Tryd.func73, Tryd.ntmps73
  go_wp2
  go_end0
  exact ⟨rfl, rfl⟩

/-- The words that are heads. -/
def headOk (x : Int) : Prop := 1 ≤ x / 16777216 ∧ x / 16777216 ≤ 14 ∧ x % 16777216 ≤ 1048576
def unC (x : Int) : Int := x / 16777216 - 3
def unN (x : Int) : Int := x % 16777216
theorem packV_un (x : Int) : packV (unC x) (unN x) = x := by unfold packV unC unN; omega
theorem unN_nonneg (x : Int) : 0 ≤ unN x := by unfold unN; omega
theorem unN_lt (x : Int) : unN x < 16777216 := by unfold unN; omega
theorem unC_pack (c n : Int) (h0 : 0 ≤ n) (h1 : n ≤ 1048576) : unC (packV c n) = c := by unfold packV unC; omega
theorem unN_pack (c n : Int) (h0 : 0 ≤ n) (h1 : n ≤ 1048576) : unN (packV c n) = n := by unfold packV unN; omega
theorem headOk_pack (c n : Int) (h1 : -2 ≤ c) (h2 : c < 12) (h3 : 0 ≤ n) (h4 : n ≤ 1048576) : headOk (packV c n) := by unfold headOk packV; omega

set_option maxHeartbeats 400000 in
theorem unpack_yes (x : Int) (w : World) (h : headOk x) :
    Calls Tryd.prog 44 #[.int .i64 x] w fun e w' => e = .returned (.tuple #[.int .i64 (unC x), .int .i64 (unN x), .bool true]) ∧ w = w' := by
  obtain ⟨h1, h2, h3⟩ := h
  have e1 := and_mask24 x
  have e2 : packV (x / 16777216 + -2 - 1) (x % 16777216) = x := by unfold packV; omega
  have e3 : unC x = x / 16777216 + -2 - 1 := by unfold unC; omega
  have e4 : unN x = x % 16777216 := rfl
  have E2 := Lib.hid e2
  have E3 := Lib.hid e3
  have E4 := Lib.hid e4
  clear e2 e3 e4
  go_enter Tryd.func44, Tryd.ntmps44
  go_wp2_with fail
  refine (pack_yes _ _ _ (by omega) (by omega) (by omega) (by omega)).mono ?_
  rintro e w' ⟨rfl, rfl⟩
  rw [E2.out]
  go_wp2
  go_ret3
  exact ⟨by rw [E3.out, E4.out]; rfl, rfl⟩

set_option maxHeartbeats 400000 in
theorem unpack_no (x : Int) (w : World) (h : ¬ headOk x) (hx0 : -9223372036854775808 ≤ x) (hx1 : x ≤ 9223372036854775807) :
    Calls Tryd.prog 44 #[.int .i64 x] w fun e w' => e = .returned (.tuple #[.int .i64 0, .int .i64 0, .bool false]) ∧ w = w' := by
  have e1 := and_mask24 x
  unfold headOk at h
  by_cases c1 : x < 0
  · go_enter Tryd.func44, Tryd.ntmps44
    go_wp2
    go_ret3
    exact ⟨rfl, rfl⟩
  · by_cases c2 : 14 < x / 16777216
    · go_enter Tryd.func44, Tryd.ntmps44
      go_wp2
      go_ret3
      exact ⟨rfl, rfl⟩
    · have hb : ((-1 : Int) != x) = true := by rw [bne_iff_ne]; omega
      go_enter Tryd.func44, Tryd.ntmps44
      go_wp2_with fail
      refine (pack_no _ _ _ (by omega)).mono ?_
      rintro e w' ⟨rfl, rfl⟩
      go_wp2
      go_ret3
      exact ⟨rfl, rfl⟩

end Go.Proofs.YtneeljhjfmcdoaaDoor
