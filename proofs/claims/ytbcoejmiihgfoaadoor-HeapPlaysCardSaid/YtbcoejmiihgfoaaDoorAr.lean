/- Walks of the functions of package arena. Walks of the functions of package arena: New, Copy, Clear, Unpack, the spaces. Walks of the functions of package arena: Copy, Clear. -/
import Derived.Test.YtbcoejmiihgfoaaDoorRows
import Derived.Test.YtbcoejmiihgfoaaDoorLib
import Derived.StillTailTactics
import Derived.Laws.CopyOwn
import Derived.Deep.QuietTactic
import Derived.BigQuiet
import Derived.Test.YtbcoejmiihgfoaaDoorInts
/-! Walks of the functions of package arena. -/
namespace Go.Proofs.YtbcoejmiihgfoaaDoor
open Go.RowKit

set_option maxHeartbeats 400000 in
theorem pack_no (c n : Int) (w : World) (h : c < -2 ∨ 12 ≤ c ∨ n < 0 ∨ 1048576 < n) :
  Calls Tryd.prog 54 #[.int .i64 c, .int .i64 n] w fun e w' => e = .returned (.int .i64 (-1)) ∧ w = w' := by
 go_enter Tryd.func54, Tryd.ntmps54
 go_wp2
 all_goals (go_ret; exact ⟨rfl, rfl⟩)

theorem ret_int {k : IntKind} {a b : Int} (h : a = b) : Ending.returned (.int k a) = .returned (.int k b) := by rw [h]

/-- The word of a head. -/
def packV (c n : Int) : Int := (c + 3) * 16777216 + n

set_option maxHeartbeats 400000 in
theorem pack_yes (c n : Int) (w : World) (h1 : -2 ≤ c) (h2 : c < 12) (h3 : 0 ≤ n) (h4 : n ≤ 1048576) :
  Calls Tryd.prog 54 #[.int .i64 c, .int .i64 n] w fun e w' => e = .returned (.int .i64 (packV c n)) ∧ w = w' := by
 go_enter Tryd.func54, Tryd.ntmps54
 go_wp2
 go_ret
 exact ⟨ret_int (by rw [or_shift _ _ (by omega) (by omega) h3 (by omega)]; unfold packV; omega), rfl⟩

/-- The arena at block b has the words xs, which lie in block g. -/
def ArAt (w : World) (b g : Nat) (xs : List Int) : Prop :=
 w.heap[b]? = some (.cells #[.slice (some ⟨g, 0, none⟩) xs.length xs.length] 102) ∧ w.heap[g]? = some (.cells (icells xs) 2) ∧ xs.length ≤ 65536

theorem ArAt.ne {w : World} {b g : Nat} {xs : List Int} (h : ArAt w b g xs) : b ≠ g := by
 rintro rfl
 have := h.1.symm.trans h.2.1
 simp at this

theorem ArAt.upd {w w' : World} {b g : Nat} {xs : List Int} {S : List Nat} (h : ArAt w b g xs) (hu : Upd S w w') (hb : b ∉ S) (hg : g ∉ S) : ArAt w' b g xs :=
 ⟨hu.heap h.1 hb, hu.heap h.2.1 hg, h.2.2⟩

theorem ArAt.cell {w : World} {b g : Nat} {xs : List Int} (h : ArAt w b g xs) : w.cell? ⟨b, 0, none⟩ = some (.slice (some ⟨g, 0, none⟩) xs.length xs.length) := by
 rw [cell_of h.1]; rfl
theorem ArAt.word {w : World} {b g : Nat} {xs : List Int} (h : ArAt w b g xs) (i : Nat) (hi : i < xs.length) : w.cell? ⟨g, i, none⟩ = some (.int .i64 (xs.getD i 0)) := by
 rw [cell_of h.2.1]; exact icells_get xs i hi
theorem ArAt.free {w : World} {b g : Nat} {xs : List Int} (h : ArAt w b g xs) (i : Nat) : w.frozen? ⟨g, i, none⟩ = false := froz_of h.2.1 i
theorem ArAt.set {w : World} {b g : Nat} {xs : List Int} (h : ArAt w b g xs) (i : Nat) (v : Int) : ArAt (w.setCell ⟨g, i, none⟩ (.int .i64 v)) b g (xs.set i v) := by
 refine ⟨?_, ?_, by simpa using h.2.2⟩
 ·rw [Below.heap_setCell _ _ _ _ h.ne]; simpa using h.1
 ·rw [heap_setCell h.2.1, icells_set]


set_option maxHeartbeats 400000 in
theorem load_in (b g : Nat) (xs : List Int) (i : Int) (w : World) (h : ArAt w b g xs) (h0 : 0 ≤ i) (h1 : i < xs.length) :
  Calls Tryd.prog 40 #[.pointer (some ⟨b, 0, none⟩), .int .i64 i] w fun e w' => e = .returned (.tuple #[.int .i64 (xs.getD i.toNat 0), .bool true]) ∧ w = w' := by
 obtain ⟨k, rfl⟩ := Int.eq_ofNat_of_zero_le h0
 have hb := h.cell
 have hl := h.2.2
 have hc := h.word k (by omega)
 go_enter Tryd.func40, Tryd.ntmps40
 go_wp2
 go_ret2
 exact ⟨rfl, rfl⟩

set_option maxHeartbeats 400000 in
theorem load_out (b g : Nat) (xs : List Int) (i : Int) (w : World) (h : ArAt w b g xs) (h0 : i < 0 ∨ xs.length ≤ i) :
  Calls Tryd.prog 40 #[.pointer (some ⟨b, 0, none⟩), .int .i64 i] w fun e w' => e = .returned (.tuple #[.int .i64 0, .bool false]) ∧ w = w' := by
 have hb := h.cell
 have hl := h.2.2
 go_enter Tryd.func40, Tryd.ntmps40
 go_wp2
 all_goals (go_ret2; exact ⟨rfl, rfl⟩)

set_option maxHeartbeats 400000 in
theorem store_in (b g : Nat) (xs : List Int) (i v : Int) (w : World) (h : ArAt w b g xs) (h0 : 0 ≤ i) (h1 : i < xs.length) :
  Calls Tryd.prog 53 #[.pointer (some ⟨b, 0, none⟩), .int .i64 i, .int .i64 v] w fun e w' => e = .returned (.bool true) ∧ ArAt w' b g (xs.set i.toNat v) ∧ Upd [g] w w' := by
 obtain ⟨k, rfl⟩ := Int.eq_ofNat_of_zero_le h0
 have hb := h.cell
 have hl := h.2.2
 have hc := h.word k (by omega)
 have hf := h.free k
 have H1 := Lib.hid (h.set k v)
 go_enter Tryd.func53, Tryd.ntmps53
 go_wp2
 go_ret
 exact ⟨rfl, H1.out, (Upd.refl _ _).setCell (by simp) _⟩

set_option maxHeartbeats 400000 in
theorem store_out (b g : Nat) (xs : List Int) (i v : Int) (w : World) (h : ArAt w b g xs) (h0 : i < 0 ∨ xs.length ≤ i) :
  Calls Tryd.prog 53 #[.pointer (some ⟨b, 0, none⟩), .int .i64 i, .int .i64 v] w fun e w' => e = .returned (.bool false) ∧ w = w' := by
 have hb := h.cell
 have hl := h.2.2
 go_enter Tryd.func53, Tryd.ntmps53
 go_wp2
 all_goals (go_ret; exact ⟨rfl, rfl⟩)


end Go.Proofs.YtbcoejmiihgfoaaDoor

/-! Walks of the functions of package arena: New, Copy, Clear, Unpack, the spaces. -/
namespace Go.Proofs.YtbcoejmiihgfoaaDoor
open Go.RowKit

theorem Tryd.info2 : (Tryd.prog.info? 2).map (fun i => (i.zero, i.size, i.bytes)) = some (some (.int .i64 0), 1, 8) := by kernel_rfl

set_option maxHeartbeats 400000 in
theorem new_ok (n : Int) (w : World) (h0 : 0 ≤ n) (h1 : n ≤ 65536) :
  Calls Tryd.prog 30 #[.int .i64 n] w fun e w' => e = .returned (.tuple #[.pointer (some ⟨w.heap.size + 1, 0, none⟩), .nilIface]) ∧ ArAt w' (w.heap.size + 1) w.heap.size (List.replicate n.toNat 0) ∧ Upd [] w w' ∧ w'.heap.size = w.heap.size + 2 := by
 obtain ⟨k, rfl⟩ := Int.eq_ofNat_of_zero_le h0
 obtain ⟨i0, hi, hz0, hz1, hz2⟩ := info_parts Tryd.info2
 have hmk := fun w => run_make (P := Tryd.prog) w 49 2 i0 (.int .i64 0) Tryd.underlying49 hi hz0 .i64 .i64 (k : Int) (k : Int) (by omega) (by omega) (by rw [hz2]; omega) (by omega)
 rw [hz1, Nat.mul_one] at hmk
 simp only [madeCells_zero, Int.toNat_natCast] at hmk
 clear hz0 hz1 hz2 hi
 go_enter Tryd.func30, Tryd.ntmps30
 go_wp2
 go_ret2
 refine ⟨rfl, ⟨?_, ?_, by simp; omega⟩, ?_, by simp⟩
 ·have := heap_alloc_new (w.alloc (.cells (icells (List.replicate k 0)) 2)) (.cells #[.slice (some ⟨w.heap.size, 0, none⟩) k k] 102)
  simpa using this
 ·have h1 := heap_alloc_new w (.cells (icells (List.replicate k 0)) 2)
  rw [Below.heap_alloc _ _ _ (by simp)]
  simpa using h1
 ·exact ((Upd.refl _ _).alloc _).alloc _


set_option maxHeartbeats 400000 in
theorem room_any (b o : Nat) (to top : Int) (w : World) (_h0 : 0 ≤ top) (_h1 : top ≤ to) (_h2 : to ≤ 1000000000)
  (hto : w.cell? ⟨b, o + 1, none⟩ = some (.int .i64 to)) (htop : w.cell? ⟨b, o + 2, none⟩ = some (.int .i64 top)) :
  Calls Tryd.prog 38 #[.pointer (some ⟨b, o, none⟩)] w fun e w' => e = .returned (.int .i64 (to - top)) ∧ ∃ n, w' = w.drewN n := by
 go_enter Tryd.func38, Tryd.ntmps38
 go_wp2
 go_quiet (fail)
 go_wp2
 go_ret
 exact ⟨rfl, _, rfl⟩

set_option maxHeartbeats 400000 in
theorem take_yes (b o : Nat) (to top n : Int) (w : World) (h0 : 0 ≤ top) (h1 : top ≤ to) (h2 : to ≤ 1000000000) (hn : 1 ≤ n) (hn2 : n ≤ to - top)
  (hto : w.cell? ⟨b, o + 1, none⟩ = some (.int .i64 to)) (htop : w.cell? ⟨b, o + 2, none⟩ = some (.int .i64 top)) (hf : w.frozen? ⟨b, o + 2, none⟩ = false) :
  Calls Tryd.prog 51 #[.pointer (some ⟨b, o, none⟩), .int .i64 n] w fun e w' => e = .returned (.tuple #[.int .i64 top, .bool true]) ∧ ∃ m, w' = (w.setCell ⟨b, o + 2, none⟩ (.int .i64 (top + n))).drewN m := by
 go_enter Tryd.func51, Tryd.ntmps51
 go_wp2_with (go_at_call 38; refine (room_any _ _ to top _ h0 h1 h2 hto htop).mono ?_; rintro e w' ⟨rfl, m, rfl⟩)
 go_ret2
 exact ⟨rfl, _, rfl⟩

set_option maxHeartbeats 400000 in
theorem take_no (b o : Nat) (to top n : Int) (w : World) (h0 : 0 ≤ top) (h1 : top ≤ to) (h2 : to ≤ 1000000000) (hn : n < 1 ∨ to - top < n)
  (hto : w.cell? ⟨b, o + 1, none⟩ = some (.int .i64 to)) (htop : w.cell? ⟨b, o + 2, none⟩ = some (.int .i64 top)) :
  Calls Tryd.prog 51 #[.pointer (some ⟨b, o, none⟩), .int .i64 n] w fun e w' => e = .returned (.tuple #[.int .i64 0, .bool false]) ∧ ∃ m, w' = w.drewN m := by
 by_cases hn1 : n < 1
 ·go_enter Tryd.func51, Tryd.ntmps51
  go_wp2_with (go_at_call 38; refine (room_any _ _ to top _ h0 h1 h2 hto htop).mono ?_; rintro e w' ⟨rfl, m, rfl⟩)
  go_ret2
  exact ⟨rfl, 0, rfl⟩
 ·go_enter Tryd.func51, Tryd.ntmps51
  go_wp2_with (go_at_call 38; refine (room_any _ _ to top _ h0 h1 h2 hto htop).mono ?_; rintro e w' ⟨rfl, m, rfl⟩)
  go_ret2
  exact ⟨rfl, _, rfl⟩

set_option maxHeartbeats 400000 in
theorem has_yes (b o : Nat) (from_ top i : Int) (w : World) (h0 : from_ ≤ i) (h1 : i < top)
  (hfrom : w.cell? ⟨b, o, none⟩ = some (.int .i64 from_)) (htop : w.cell? ⟨b, o + 2, none⟩ = some (.int .i64 top)) :
  Calls Tryd.prog 42 #[.pointer (some ⟨b, o, none⟩), .int .i64 i] w fun e w' => e = .returned (.bool true) ∧ w = w' := by
 have d0 : decide (from_ ≤ i) = true := by simpa using h0
 have d1 : decide (i < top) = true := by simpa using h1
 go_enter Tryd.func42, Tryd.ntmps42
 go_wp2
 go_ret
 exact ⟨rfl, rfl⟩

set_option maxHeartbeats 400000 in
theorem has_no (b o : Nat) (from_ top i : Int) (w : World) (h0 : i < from_ ∨ top ≤ i)
  (hfrom : w.cell? ⟨b, o, none⟩ = some (.int .i64 from_)) (htop : w.cell? ⟨b, o + 2, none⟩ = some (.int .i64 top)) :
  Calls Tryd.prog 42 #[.pointer (some ⟨b, o, none⟩), .int .i64 i] w fun e w' => e = .returned (.bool false) ∧ w = w' := by
 by_cases c : from_ ≤ i
 ·have d0 : decide (from_ ≤ i) = true := by simpa using c
  have d1 : decide (i < top) = false := by simp; omega
  go_enter Tryd.func42, Tryd.ntmps42
  go_wp2
  go_ret
  exact ⟨rfl, rfl⟩
 ·have d0 : decide (from_ ≤ i) = false := by simpa using c
  go_enter Tryd.func42, Tryd.ntmps42
  go_wp2
  go_ret
  exact ⟨rfl, rfl⟩


/-- The words that are heads. -/
def headOk (x : Int) : Prop := 1 ≤ x / 16777216 ∧ x / 16777216 ≤ 14 ∧ x % 16777216 ≤ 1048576
def unC (x : Int) : Int := x / 16777216 - 3
def unN (x : Int) : Int := x % 16777216
theorem packV_un (x : Int) : packV (unC x) (unN x) = x := by unfold packV unC unN; omega
theorem unN_nonneg (x : Int) : 0 ≤ unN x := by unfold unN; omega
theorem unN_lt (x : Int) : unN x < 16777216 := by unfold unN; omega
theorem unC_pack (c n : Int) (h0 : 0 ≤ n) (h1 : n ≤ 1048576) : unC (packV c n) = c := by unfold packV unC; omega
theorem unN_pack (c n : Int) (h0 : 0 ≤ n) (h1 : n ≤ 1048576) : unN (packV c n) = n := by unfold packV unN; omega
theorem headOk_pack (c n : Int) (h1 : -2 ≤ c) (h2 : c < 12) (h3 : 0 ≤ n) (h4 : n ≤ 1048576) : headOk (packV c n) := by unfold headOk packV; omega

set_option maxHeartbeats 400000 in
theorem unpack_yes (x : Int) (w : World) (h : headOk x) :
  Calls Tryd.prog 41 #[.int .i64 x] w fun e w' => e = .returned (.tuple #[.int .i64 (unC x), .int .i64 (unN x), .bool true]) ∧ w = w' := by
 obtain ⟨h1, h2, h3⟩ := h
 have e1 := and_mask24 x
 have e2 : packV (x / 16777216 + -2 - 1) (x % 16777216) = x := by unfold packV; omega
 have e3 : unC x = x / 16777216 + -2 - 1 := by unfold unC; omega
 have e4 : unN x = x % 16777216 := rfl
 have E2 := Lib.hid e2
 have E3 := Lib.hid e3
 have E4 := Lib.hid e4
 clear e2 e3 e4
 go_enter Tryd.func41, Tryd.ntmps41
 go_wp2_with fail
 refine (pack_yes _ _ _ (by omega) (by omega) (by omega) (by omega)).mono ?_
 rintro e w' ⟨rfl, rfl⟩
 rw [E2.out]
 go_wp2
 go_ret3
 exact ⟨by rw [E3.out, E4.out]; rfl, rfl⟩

set_option maxHeartbeats 400000 in
theorem unpack_no (x : Int) (w : World) (h : ¬ headOk x) (hx0 : -9223372036854775808 ≤ x) (hx1 : x ≤ 9223372036854775807) :
  Calls Tryd.prog 41 #[.int .i64 x] w fun e w' => e = .returned (.tuple #[.int .i64 0, .int .i64 0, .bool false]) ∧ w = w' := by
 have e1 := and_mask24 x
 unfold headOk at h
 by_cases c1 : x < 0
 ·go_enter Tryd.func41, Tryd.ntmps41
  go_wp2
  go_ret3
  exact ⟨rfl, rfl⟩
 ·by_cases c2 : 14 < x / 16777216
  ·go_enter Tryd.func41, Tryd.ntmps41
   go_wp2
   go_ret3
   exact ⟨rfl, rfl⟩
  ·have hb : ((-1 : Int) != x) = true := by rw [bne_iff_ne]; omega
   go_enter Tryd.func41, Tryd.ntmps41
   go_wp2_with fail
   refine (pack_no _ _ _ (by omega)).mono ?_
   rintro e w' ⟨rfl, rfl⟩
   go_wp2
   go_ret3
   exact ⟨rfl, rfl⟩

end Go.Proofs.YtbcoejmiihgfoaaDoor

/-! Walks of the functions of package arena: Copy, Clear. -/
namespace Go.Proofs.YtbcoejmiihgfoaaDoor
open Go.RowKit


/-- Where a cut of a whole row begins. -/
def cutAt (g n t : Nat) : Option Addr := some ⟨g, if n = t then 0 else t, none⟩

theorem run_cut (w : World) (g n t k : Nat) (h : t + k ≤ n) :
  (Instr.slice 49 (.slice (some ⟨g, 0, none⟩) n n) (some (.int .i64 (t : Int))) (some (.int .i64 ((t : Int) + (k : Int)))) none).run Tryd.prog w = .ok (.slice (cutAt g n t) k (n - t)) w := by
 have hsz : (sizeOf 2).run Tryd.prog w = .ok 1 w := by kernel_rfl
 have he : Tryd.prog.elem 49 = 2 := by kernel_rfl
 rw [run_slice_lh w 49 _ _ _ (by rw [he]; exact Tryd.underlying49) .i64 .i64 (t : Int) ((t : Int) + (k : Int)) (by omega) (by omega) (by omega), he, hsz]
 have e1 : ((t : Int) + (k : Int)).toNat - (t : Int).toNat = k := by omega
 simp only [Result.andThen, sliced, Int.toNat_natCast, Nat.mul_one, cutAt] at e1 ⊢
 rw [e1]
 by_cases c : n = t
 ·simp [c]
 ·simp [c, Addr.add]
  intro h; exact h.symm


/-- The words with 0 from lo up to hi. -/
def clearL (xs : List Int) (fr to : Int) : List Int :=
 splice xs fr.toNat (List.replicate ((min to xs.length) - (max fr 0)).toNat 0)

theorem run_cut2 (w : World) (g n : Nat) (lo hi : Int) (h0 : 0 ≤ lo) (h1 : lo < hi) (h2 : hi ≤ n) :
  (Instr.slice 49 (.slice (some ⟨g, 0, none⟩) n n) (some (.int .i64 lo)) (some (.int .i64 hi)) none).run Tryd.prog w = .ok (.slice (some ⟨g, lo.toNat, none⟩) (hi - lo).toNat (n - lo.toNat)) w := by
 have hsz : (sizeOf 2).run Tryd.prog w = .ok 1 w := by kernel_rfl
 have he : Tryd.prog.elem 49 = 2 := by kernel_rfl
 rw [run_slice_lh w 49 _ _ _ (by rw [he]; exact Tryd.underlying49) .i64 .i64 lo hi (by omega) (by omega) (by omega), he, hsz]
 have e1 : hi.toNat - lo.toNat = (hi - lo).toNat := by omega
 simp only [Result.andThen, sliced, Nat.mul_one]
 rw [if_neg (by omega), e1]
 simp [Addr.add]
 omega

theorem Tryd.zero2 (w : World) : (zeroValue 2).run Tryd.prog w = .ok (.int .i64 0) w := by kernel_rfl

set_option maxHeartbeats 400000 in
theorem clear_any (b g : Nat) (xs : List Int) (fr to : Int) (w : World) (h : ArAt w b g xs) :
  Calls Tryd.prog 52 #[.pointer (some ⟨b, 0, none⟩), .int .i64 fr, .int .i64 to] w fun e w' => e = .returned (.tuple #[]) ∧ ArAt w' b g (clearL xs fr to) ∧ Upd [g] w w' := by
 have hb := h.cell
 have hl := h.2.2
 have H := Lib.hid h
 clear h
 obtain ⟨lo, hlo⟩ : ∃ lo : Int, lo = if fr < 0 then 0 else fr := ⟨_, rfl⟩
 obtain ⟨hi, hhi⟩ : ∃ hi : Int, hi = if (xs.length : Int) < to then (xs.length : Int) else to := ⟨_, rfl⟩
 have b1 : 0 ≤ lo := by omega
 have b2 : hi ≤ xs.length := by omega
 have HL := Lib.hid hlo
 have HH := Lib.hid hhi
 clear hlo hhi
 go_enter Tryd.func52, Tryd.ntmps52
 go_wp2_with fail
 go_region
 rw [← HL.out, ← HH.out]
 by_cases hlt : lo < hi
 ·have hcut := fun w => run_cut2 w g xs.length lo hi b1 hlt b2
  have hcl : ∀ ty, (Builtin.clear_ #[49] ty #[.slice (some ⟨g, lo.toNat, none⟩) (hi - lo).toNat (xs.length - lo.toNat)]).run Tryd.prog w.drew = .ok (.tuple #[]) (w.drew.setRow g (splice (xs.map (Value.int .i64)) lo.toNat (List.replicate (hi - lo).toNat (.int .i64 0))).toArray) :=
   fun ty => run_clear_row w.drew 49 2 ty (.int .i64 0) Tryd.underlying49 Tryd.zero2 rfl rfl g lo.toNat _ _ (by omega) _ 2 H.out.2.1 (by simp; omega)
  go_wp2_with (simp only [hcl])
  go_end0
  have e : clearL xs fr to = splice xs lo.toNat (List.replicate (hi - lo).toNat 0) := by
   unfold clearL
   have e1 : fr.toNat = lo.toNat := by have := HL.out; omega
   have e2 : ((min to (xs.length : Int)) - (max fr 0)).toNat = (hi - lo).toNat := by have := HL.out; have := HH.out; omega
   rw [e1, e2]
  have hlen : (clearL xs fr to).length = xs.length := by rw [e]; exact length_splice _ _ _ (by simp; omega)
  refine ⟨rfl, ⟨?_, ?_, by rw [hlen]; exact hl⟩, ((Upd.refl _ _).drew).setRow (by simp) _⟩
  ·rw [setRow_other _ _ _ _ H.out.ne, hlen]; exact H.out.1
  ·rw [e]
   have h1 := setRow_heap w.drew g _ (splice (xs.map (Value.int .i64)) lo.toNat (List.replicate (hi - lo).toNat (.int .i64 0))).toArray _ _ H.out.2.1
   have h2 : (List.replicate (hi - lo).toNat (Value.int .i64 0)) = (List.replicate (hi - lo).toNat (0 : Int)).map (Value.int .i64) := by simp
   rw [h2, splice_map] at h1
   rw [h2, splice_map]
   exact h1
 ·go_wp2
  go_end0
  refine ⟨rfl, ?_, (Upd.refl _ _).drew⟩
  have e : clearL xs fr to = xs := by
   unfold clearL
   have : ((min to (xs.length : Int)) - (max fr 0)).toNat = 0 := by have := HL.out; have := HH.out; omega
   rw [this]; simp [splice]
  rw [e]; exact H.out

end Go.Proofs.YtbcoejmiihgfoaaDoor
