/- Which numbers are in a set, rising; the lowest bit of a word. No program in sight. bits.Set.Each: its contract, for whatever loop body keeps the set's words. math/bits.TrailingZeros64. -/
import Derived.Test.YtbcoejmiihgfoaaDoorBits
import Derived.Lib.TrailingZeros
import Derived.Shelf.Spec.TrailingZeros
import Derived.RangeFuncBox
import Derived.RangeFuncLeaves
import Derived.Shelf.Abstract
import Derived.WalkKit
import Derived.OwnWalkIn
import Derived.TacticsInMore
import Derived.LoopNIn
import Derived.LoopIn
/-! Which numbers are in a set, rising; the lowest bit of a word. No program in sight. -/
namespace Go.Proofs.YtbcoejmiihgfoaaDoor
open Go.RowKit

/-- The numbers of the set below m, rising. -/
def bupto (ws : List Nat) (m : Nat) : List Nat := (List.range m).filter (bhas ws)
/-- All numbers of the set, rising. -/
def blist (ws : List Nat) : List Nat := bupto ws (64 * ws.length)

theorem bupto_zero (ws : List Nat) : bupto ws 0 = [] := rfl
theorem bupto_yes (ws : List Nat) (m : Nat) (h : bhas ws m = true) : bupto ws (m + 1) = bupto ws m ++ [m] := by
 simp [bupto, List.range_succ, List.filter_append, h]
theorem bupto_no (ws : List Nat) (m : Nat) (h : bhas ws m = false) : bupto ws (m + 1) = bupto ws m := by
 simp [bupto, List.range_succ, List.filter_append, h]
theorem bupto_skip (ws : List Nat) (a d : Nat) (h : ∀ j, a ≤ j → j < a + d → bhas ws j = false) : bupto ws (a + d) = bupto ws a := by
 induction d with
 | zero => rfl
 | succ d ih =>
  rw [← Nat.add_assoc, bupto_no ws (a + d) (h _ (by omega) (by omega))]
  exact ih (fun j h1 h2 => h j h1 (by omega))
theorem mem_bupto (ws : List Nat) (m i : Nat) : i ∈ bupto ws m ↔ i < m ∧ bhas ws i = true := by
 simp [bupto]
theorem bhas_lt (ws : List Nat) (i : Nat) (h : bhas ws i = true) : i < 64 * ws.length := by
 unfold bhas at h
 rcases Nat.lt_or_ge (i / 64) ws.length with c | c
 ·omega
 ·rw [List.getD_eq_getElem?_getD, List.getElem?_eq_none c] at h
  simp at h
theorem mem_blist (ws : List Nat) (i : Nat) : i ∈ blist ws ↔ bhas ws i = true := by
 unfold blist
 rw [mem_bupto]
 exact ⟨fun h => h.2, fun h => ⟨bhas_lt ws i h, h⟩⟩
theorem bupto_sorted (ws : List Nat) (m : Nat) : (bupto ws m).Pairwise (· < ·) := List.pairwise_lt_range.filter _
theorem blist_sorted (ws : List Nat) : (blist ws).Pairwise (· < ·) := bupto_sorted _ _
theorem bupto_len (ws : List Nat) (m : Nat) : (bupto ws m).length ≤ m := by
 have := List.length_filter_le (bhas ws) (List.range m)
 simpa [bupto] using this
theorem bupto_mono (ws : List Nat) (a b : Nat) (h : a ≤ b) : (bupto ws a).length ≤ (bupto ws b).length := by
 obtain ⟨d, rfl⟩ : ∃ d, b = a + d := ⟨b - a, by omega⟩
 clear h
 induction d with
 | zero => exact Nat.le_refl _
 | succ d ih =>
  rw [← Nat.add_assoc]
  cases hb : bhas ws (a + d) with
  | true => rw [bupto_yes ws _ hb]; simp; omega
  | false => rw [bupto_no ws _ hb]; exact ih

theorem low_bit (x : Nat) (h0 : x ≠ 0) (h : x < 2 ^ 64) : Lib.ctz 64 x < 64 ∧ x.testBit (Lib.ctz 64 x) = true ∧ (∀ j, j < Lib.ctz 64 x → x.testBit j = false) ∧ ∀ j, (x &&& (x - 1)).testBit j = (x.testBit j && decide (Lib.ctz 64 x < j)) := by
 have e : Lib.ctz 64 x = Lib.ctzFrom 64 x := by unfold Lib.ctz; rw [if_neg h0]
 obtain ⟨m, hm, hc⟩ := Lib.ctzFrom_spec 64 x (by omega) h
 rw [e]
 generalize Lib.ctzFrom 64 x = c at hm hc
 have hp : 0 < 2 ^ c := Nat.two_pow_pos c
 have hx : ∀ j, x.testBit j = if j < c then false else (2 * m + 1).testBit (j - c) := fun j => by
  have := Nat.testBit_two_pow_mul_add (i := c) (2 * m + 1) (b := 0) hp j
  rw [Nat.add_zero, ← hm] at this
  rw [this]
  simp
 have hx1 : ∀ j, (x - 1).testBit j = if j < c then (2 ^ c - 1).testBit j else (2 * m).testBit (j - c) := fun j => by
  have := Nat.testBit_two_pow_mul_add (i := c) (2 * m) (b := 2 ^ c - 1) (by omega) j
  rw [← this]
  congr 1
  rw [hm, Nat.mul_add, Nat.mul_one]
  omega
 refine ⟨hc, ?_, fun j hj => ?_, fun j => ?_⟩
 ·rw [hx, if_neg (by omega), Nat.sub_self]
  simp
 ·rw [hx, if_pos hj]
 ·rw [Nat.testBit_and, hx1, hx]
  by_cases h1 : j < c
  ·simp [h1]
  ·rw [if_neg h1, if_neg h1]
   by_cases h2 : j = c
   ·subst h2
    simp
   ·obtain ⟨d, rfl⟩ : ∃ d, j = c + (d + 1) := ⟨j - c - 1, by omega⟩
    have e3 : c + (d + 1) - c = d + 1 := by omega
    rw [e3, Nat.testBit_succ, Nat.testBit_succ]
    have d1 : (2 * m + 1) / 2 = m := by omega
    have d2 : 2 * m / 2 = m := by omega
    rw [d1, d2]
    have h3 : c < c + (d + 1) := by omega
    simp [h3]

/-- One round of the inner loop. -/
theorem word_step (ws : List Nat) (k p x : Nat) (hp : p ≤ 64) (hx : ∀ j, x.testBit j = ((ws.getD k 0).testBit j && decide (p ≤ j))) (h0 : x ≠ 0) (h : x < 2 ^ 64) :
  p ≤ Lib.ctz 64 x ∧ Lib.ctz 64 x < 64 ∧ bhas ws (64 * k + Lib.ctz 64 x) = true ∧ bupto ws (64 * k + Lib.ctz 64 x) = bupto ws (64 * k + p) ∧ bupto ws (64 * k + (Lib.ctz 64 x + 1)) = bupto ws (64 * k + p) ++ [64 * k + Lib.ctz 64 x] ∧
   (∀ j, (x &&& (x - 1)).testBit j = ((ws.getD k 0).testBit j && decide (Lib.ctz 64 x + 1 ≤ j))) := by
 obtain ⟨h1, h2, h3, h4⟩ := low_bit x h0 h
 generalize Lib.ctz 64 x = c at *
 have hb : ∀ j, j < 64 → bhas ws (64 * k + j) = (ws.getD k 0).testBit j := fun j hj => by
  unfold bhas
  rw [show (64 * k + j) / 64 = k by omega, show (64 * k + j) % 64 = j by omega]
 have hpc : p ≤ c := by
  rw [hx] at h2
  simp at h2
  exact h2.2
 have hbc : bhas ws (64 * k + c) = true := by
  rw [hb c h1]
  rw [hx] at h2
  simp at h2
  exact h2.1
 have hsk : bupto ws (64 * k + c) = bupto ws (64 * k + p) := by
  have := bupto_skip ws (64 * k + p) (c - p) (fun j a b => by
   obtain ⟨i, rfl⟩ : ∃ i, j = 64 * k + i := ⟨j - 64 * k, by omega⟩
   rw [hb i (by omega)]
   have h5 := h3 i (by omega)
   rw [hx] at h5
   rw [decide_eq_true (by omega : p ≤ i)] at h5
   simpa using h5)
  rwa [show 64 * k + p + (c - p) = 64 * k + c by omega] at this
 refine ⟨hpc, h1, hbc, hsk, ?_, fun j => ?_⟩
 ·rw [← Nat.add_assoc, bupto_yes ws _ hbc, hsk]
 ·rw [h4, hx, Bool.and_assoc]
  congr 1
  rw [Bool.eq_iff_iff]
  simp
  omega

/-- The inner loop's end. -/
theorem word_end (ws : List Nat) (k p : Nat) (hp : p ≤ 64) (hx : ∀ j, (0 : Nat).testBit j = ((ws.getD k 0).testBit j && decide (p ≤ j))) : bupto ws (64 * (k + 1)) = bupto ws (64 * k + p) := by
 have := bupto_skip ws (64 * k + p) (64 - p) (fun j a b => by
  obtain ⟨i, rfl⟩ : ∃ i, j = 64 * k + i := ⟨j - 64 * k, by omega⟩
  unfold bhas
  rw [show (64 * k + i) / 64 = k by omega, show (64 * k + i) % 64 = i by omega]
  have h5 := hx i
  rw [decide_eq_true (by omega : p ≤ i)] at h5
  simpa using h5.symm)
 rwa [show 64 * k + p + (64 - p) = 64 * (k + 1) by omega] at this

theorem and_pred_lt (x : Nat) (h0 : x ≠ 0) : x &&& (x - 1) < x := Nat.lt_of_le_of_lt Nat.and_le_right (by omega)

end Go.Proofs.YtbcoejmiihgfoaaDoor

/-! bits.Set.Each: its contract, for whatever loop body keeps the set's words. math/bits.TrailingZeros64. -/
namespace Go.Proofs.YtbcoejmiihgfoaaDoor
open Go.RowKit Go.Shelf

attribute [local go_sem] Oper.semAt_some

/-- The library's table lies in its variable. -/
def TzAt (w : World) : Prop := ∀ j, j < Lib.deBruijn64tab.length → w.cell? ⟨1, j, none⟩ = some (.int .u8 (Lib.deBruijn64tab.getD j 0))

theorem TzAt.upd {w w' : World} {S : List Nat} (h : TzAt w) (hu : Upd S w w') (hS : 1 ∉ S) : TzAt w' := fun j hj => hu.cell (h j hj) hS

set_option maxHeartbeats 1000000 in
theorem tz_core (x k idx : Nat) (w : World) (hx0 : ((x : Int) == 0) = false)
  (key : IntKind.u64.wrap (bits BinOp.and IntKind.u64 (x : Int) (IntKind.u64.wrap (-(x : Int))) * 285870213051353865) / 288230376151711744 = (idx : Int))
  (hi : idx < 64) (hk : k < 64) (hcell : w.cell? ⟨1, idx, none⟩ = some (.int .u8 k)) :
  Calls Tryd.prog 57 #[.int .u64 x] w fun e w' => e = .returned (.int .i64 k) ∧ w = w' := by
 go_enter Tryd.func57, Tryd.ntmps57
 go_wp2_with (simp only [key])
 go_ret
 exact ⟨rfl, rfl⟩

theorem tz_any (x : Nat) (hx0 : x ≠ 0) (hx : x < 18446744073709551616) (w : World) (hT : TzAt w) :
  Calls Tryd.prog 57 #[.int .u64 x] w fun e w' => e = .returned (.int .i64 (Lib.ctz 64 x)) ∧ w = w' := by
 obtain ⟨hlow, hk⟩ := Lib.lowest_bit 64 x hx0 hx
 obtain ⟨hi, htab⟩ := Lib.deBruijn64_at _ hk
 have hcell := hT _ hi
 rw [htab] at hcell
 exact tz_core x _ _ w (by simp; omega) (tz64_key x _ hx hx0 hlow) hi hk hcell

/-- What a loop body over a set keeps: the words, and the library's table. -/
def KeepB (g : Nat) (W W' : World) : Prop := W'.heap[g]? = W.heap[g]? ∧ W'.heap[1]? = W.heap[1]? ∧ W.heap.size ≤ W'.heap.size
theorem KeepB.refl (g : Nat) (W : World) : KeepB g W W := ⟨rfl, rfl, Nat.le_refl _⟩
theorem KeepB.trans {g : Nat} {A B C : World} (h : KeepB g A B) (k : KeepB g B C) : KeepB g A C := ⟨k.1.trans h.1, k.2.1.trans h.2.1, Nat.le_trans h.2.2 k.2.2⟩
theorem KeepB.of_upd {g : Nat} {S : List Nat} {W W' : World} (h : Upd S W W') (hg : g < W.heap.size) (hg' : g ∉ S) (ht : 1 < W.heap.size) (ht' : 1 ∉ S) : KeepB g W W' :=
 ⟨h.block g hg hg', h.block _ ht ht', h.size⟩

theorem TzAt.keep {g : Nat} {W W' : World} (h : TzAt W) (k : KeepB g W W') : TzAt W' := fun j hj => by
 rw [World.cell?_of_block (a := ⟨1, j, none⟩) k.2.1]; exact h j hj

/-- The set at block b has bound n; its words ws are the first of block g's. -/
structure SetC (w : World) (b g n c : Nat) (ws : List Nat) : Prop where
 hd : ∃ a, w.heap[b]? = some (.cells #[.int .i64 n, .slice a ws.length c] 105) ∧ (0 < ws.length → a = some ⟨g, 0, none⟩)
 word : ∀ i, i < ws.length → w.cell? ⟨g, i, none⟩ = some (.int .u64 ((ws.getD i 0 : Nat) : Int))
 most : n ≤ 1048576
 len : ws.length = (n + 63) / 64
 wide : ∀ i, i < ws.length → ws.getD i 0 < 2 ^ 64
 low : ∀ i, bhas ws i = true → i < n
theorem SetC.c1 {w : World} {b g n c : Nat} {ws : List Nat} (h : SetC w b g n c ws) : ∃ a, w.cell? ⟨b, 1, none⟩ = some (.slice a ws.length c) ∧ (0 < ws.length → a = some ⟨g, 0, none⟩) := by
 obtain ⟨a, h1, h2⟩ := h.hd
 exact ⟨a, by rw [cell_of h1]; rfl, h2⟩
theorem SetAt.toC {w : World} {b g n : Nat} {ws : List Nat} (h : SetAt w b g n ws) : SetC w b g n ws.length ws :=
 ⟨⟨_, h.1, fun _ => rfl⟩, fun i hi => h.word i hi, h.2.2.1, h.2.2.2.1, h.2.2.2.2.1, h.2.2.2.2.2⟩
theorem SetC.upd {w w' : World} {b g n c : Nat} {ws : List Nat} {S : List Nat} (h : SetC w b g n c ws) (hu : Upd S w w') (hb : b ∉ S) (hg : g ∉ S) : SetC w' b g n c ws :=
 ⟨by obtain ⟨a, h1, h2⟩ := h.hd; exact ⟨a, hu.heap h1 hb, h2⟩, fun i hi => hu.cell (h.word i hi) hg, h.most, h.len, h.wide, h.low⟩

set_option maxRecDepth 100000 in
set_option maxHeartbeats 2000000 in
theorem each1_in (n : Nat) (hn : 1 ≤ n) (l Bs b g nb c : Nat) (ws : List Nat) (J Jx : List Nat → World → Prop)
  (hY : ∀ (pre : List Nat) (x : Nat) (W : World), J pre W → pre.length < (blist ws).length → bhas ws x = true → YieldAt Fence.wide (n - 1) Tryd.prog l #[.int .i64 (x : Int)] W fun e W' =>
   (e = .returned (.bool true) ∧ J (pre ++ [x]) W' ∧ KeepB g W W') ∨ (e = .returned (.bool false) ∧ Jx (pre ++ [x]) W'))
  (W : World) (hBs : W.cell? ⟨Bs, 0, none⟩ = some (.pointer (some ⟨b, 0, none⟩))) (hset : SetC W b g nb c ws) (hT : TzAt W) (h0 : J [] W) :
  CallsIn Fence.wide n Tryd.prog 56 #[.func (.yield l) #[] #[], .pointer (some ⟨Bs, 0, none⟩)] W fun e W' => (∃ v, e = .returned v) ∧
   ((∃ ys, ys = blist ws ∧ J ys W') ∨ (∃ pre, True ∧ Jx pre W')) := by
 refine callsIn_of_wp Tryd.func56 rfl trivial ?_ rfl
 simp only [Tryd.ntmps56, List.size_toArray, List.length_cons, List.length_nil, Nat.reduceAdd, Nat.reduceSub, Array.replicate_succ, Array.replicate_zero, List.push_toArray, List.append_toArray, List.nil_append, List.cons_append]
 obtain ⟨ga, hc1, hga⟩ := hset.c1
 have HGA := Lib.hid hga
 clear hga
 have hnb := hset.most
 have hwl := hset.len
 have hl16 : ws.length ≤ 16384 := by omega
 have HW := Lib.hid hset.wide
 have HSB := Lib.hid hset.word
 have HT := Lib.hid hT
 have HB : Hid (blist ws = bupto ws (64 * ws.length)) := Hid.mk rfl
 clear hwl hset hT
 gi_wp2
 gi_loopw [10] (fun i wr => ∃ k : Nat, k ≤ ws.length ∧ i = .int .i64 k ∧ J (bupto ws (64 * k)) wr ∧ KeepB g W wr) (fun i _ => ws.length - (intOf i).toNat)
 case atStart => exact ⟨0, Nat.zero_le _, rfl, h0, KeepB.refl _ _⟩
 case round =>
  obtain ⟨k, hk, rfl, hJ, hK⟩ := hrel
  by_cases hlt : k < ws.length
  ·obtain rfl := HGA.out (by omega)
   have hwd : wr.cell? ⟨g, k, none⟩ = some (.int .u64 ((ws.getD k 0 : Nat) : Int)) := by
    rw [World.cell?_of_block (a := ⟨g, k, none⟩) hK.1]; exact HSB.out k hlt
   have hx64 := HW.out k hlt
   generalize hx0 : ws.getD k 0 = x0 at hwd hx64
   have HX0 := Lib.hid hx0
   clear hx0
   obtain ⟨wo, rfl⟩ : ∃ wo : World, wo = wr := ⟨_, rfl⟩
   gi_wp2
   gi_loopw [4] (fun xv wr => ∃ x p : Nat, xv = .int .u64 (x : Int) ∧ x < 2 ^ 64 ∧ p ≤ 64 ∧ Hid (∀ j, x.testBit j = (x0.testBit j && decide (p ≤ j))) ∧ J (bupto ws (64 * k + p)) wr ∧ KeepB g W wr) (fun xv _ => (intOf xv).toNat)
   case atStart => exact ⟨x0, 0, rfl, hx64, by omega, (fun j => by simp : ∀ j, _), hJ, hK⟩
   case round =>
    clear hJ hK hwd
    obtain ⟨x, p, rfl, hxl, hp, hX, hJ, hK⟩ := hrel
    by_cases hz : x = 0
    ·subst hz
     have HE := Lib.hid (word_end ws k p hp (by rw [HX0.out]; exact hX.out))
     gi_wp2
     go_roundw
     case rel => exact ⟨k + 1, by omega, by go_num, by rw [HE.out]; exact hJ, hK⟩
     case measure => simp [intOf]; omega
    ·obtain ⟨s1, s2, s3, s4, s5, s6⟩ := word_step ws k p x hp (by rw [HX0.out]; exact hX.out) hz hxl
     have hin : (bupto ws (64 * k + p)).length < (blist ws).length := by
      have h1 : (bupto ws (64 * k + (Lib.ctz 64 x + 1))).length ≤ (blist ws).length := bupto_mono ws _ _ (by omega)
      rw [s5] at h1
      simp at h1
      omega
     obtain ⟨fn, tmps, assign, body, hy, hR⟩ := hY _ (64 * k + Lib.ctz 64 x) wr hJ hin s3
     have e1 : ((64 * k + Lib.ctz 64 x : Nat) : Int) = 64 * (k : Int) + (Lib.ctz 64 x : Int) := by omega
     rw [e1] at hy
     have HTZ := Lib.hid (tz_any x hz hxl wr (HT.out.keep hK))
     have hxz : ((x : Int) != 0) = true := by rw [bne_iff_ne]; omega
     have hx1 : 1 ≤ x := by omega
     have hap := and_pred_lt x hz
     have hb := bits_and_u64_nat x (x - 1) hxl (by omega)
     have hb2 : bits BinOp.and IntKind.u64 (x : Int) ((x : Int) - 1) = ((x &&& (x - 1) : Nat) : Int) := by
      rw [← hb]; congr 1; omega
     have S5 := Lib.hid s5
     have S6 := Lib.hid s6
     have hc64 := s2
     clear s1 s2 s3 s4 s5 s6 hb e1 hz hin
     rw [HX0.out] at S6
     generalize Lib.ctz 64 x = cz at hy HTZ S5 S6 hR hc64
     gi_wp2
     refine ⟨trivial, (callsIn_wide.2 HTZ.out).mono ?_⟩
     rintro e w' ⟨rfl, rfl⟩
     gi_wp2
     refine hR.mono ?_
     rintro e W3 (⟨rfl, hJ3, hk3⟩ | ⟨rfl, hJx3⟩)
     ·have hKK := hK.trans hk3
      have hJ4 : J (bupto ws (64 * k + (cz + 1))) W3 := by rw [S5.out]; exact hJ3
      have hxx : x &&& (x - 1) < 2 ^ 64 := by omega
      clear hJ hJ3 hk3 hR hy
      gi_wp2
      go_roundw
      case rel => exact ⟨x &&& (x - 1), cz + 1, rfl, hxx, by omega, S6.out, hJ4, hKK⟩
      case measure => simp [intOf]; omega
     ·gi_wp2
      refine bodyPost_ret (results_none rfl _ _ _) rfl ?_
      exact ⟨⟨_, rfl⟩, .inr ⟨_, trivial, hJx3⟩⟩
  ·obtain rfl : k = ws.length := by omega
   gi_wp2
   go_end0
   exact ⟨⟨_, rfl⟩, .inl ⟨_, rfl, by rw [HB.out]; exact hJ⟩⟩

set_option maxHeartbeats 1000000 in
/-- Each: the set's address is boxed; the function value captures the box. -/
theorem each_any (b : Option Addr) (w : World) :
  Calls Tryd.prog 44 #[.pointer b] w fun e w' => e = .returned (.func (.func 56) #[] #[.pointer (some ⟨w.heap.size, 0, none⟩)]) ∧ w' = w.alloc (.cells #[.pointer b] 82) := by
 go_enter Tryd.func44, Tryd.ntmps44
 go_wp2_with fail
 go_ret
 exact ⟨rfl, rfl⟩

/-- A number of the set. -/
abbrev Inb (ws : List Nat) := { x : Nat // bhas ws x = true }

theorem each_stopsC (n : Nat) (hn : 1 ≤ n) (Bs b g nb c : Nat) (ws : List Nat) (w : World) (hc : w.cell? ⟨Bs, 0, none⟩ = some (.pointer (some ⟨b, 0, none⟩))) (hset : SetC w b g nb c ws) (hT : TzAt w) :
  SeqStopsK Fence.wide n Tryd.prog 56 #[.pointer (some ⟨Bs, 0, none⟩)] (fun x : Inb ws => #[Value.int .i64 (x.1 : Int)]) (KeepB g) (fun ys => ys.map Subtype.val = blist ws) (fun _ => True) (blist ws).length w := fun l J Jx W hW _ _ hY h0 => by
 have hu : Upd [] w W := Upd.of_below hW
 refine (each1_in n hn l Bs b g nb c ws (fun pre W => ∃ ys : List (Inb ws), ys.map Subtype.val = pre ∧ J ys W) (fun pre W => ∃ ys : List (Inb ws), ys.map Subtype.val = pre ∧ Jx ys W) ?_ W (hu.cell hc (by simp)) (hset.upd hu (by simp) (by simp)) (hT.upd hu (by simp)) ⟨[], rfl, h0⟩).mono ?_
 ·rintro pre x W ⟨ys, rfl, hJ⟩ hl hx
  obtain ⟨fn, tmps, assign, body, hy, hR⟩ := hY ys ⟨x, hx⟩ W hJ (by simpa using hl)
  refine ⟨fn, tmps, assign, body, hy, hR.mono ?_⟩
  rintro e W' (⟨rfl, h1, h2⟩ | ⟨rfl, h1⟩)
  ·exact .inl ⟨rfl, ⟨_, by simp, h1⟩, h2⟩
  ·exact .inr ⟨rfl, ⟨_, by simp, h1⟩⟩
 ·rintro e W' ⟨he, ⟨ys, rfl, zs, h1, h2⟩ | ⟨pre, _, zs, _, h2⟩⟩
  ·exact ⟨he, .inl ⟨zs, h1, h2⟩⟩
  ·exact ⟨he, .inr ⟨zs, trivial, h2⟩⟩

theorem keepB_b {g : Nat} {w : World} (hg : g < w.heap.size) (_ht : 1 < w.heap.size) (W : World) (l : Nat) (o o' : Obj) (hl : w.heap.size ≤ l) (_h : W.heap[l]? = some o) (_ : o.isCells = false) (_ : o.isWalk = false) : KeepB g W (W.putObj l o') := by
 have hgr := grownBy_putObj' W l o'
 have hlt := lt_of_heap _h
 exact ⟨hgr.block g (by omega) (by simp; omega), hgr.block _ (by omega) (by simp; omega), hgr.size⟩

theorem TzAt.lt {w : World} (h : TzAt w) : 1 < w.heap.size := World.block_lt_of_cell? w _ (h 0 (by decide))
theorem each_stops (n : Nat) (hn : 1 ≤ n) (Bs b g nb : Nat) (ws : List Nat) (w : World) (hc : w.cell? ⟨Bs, 0, none⟩ = some (.pointer (some ⟨b, 0, none⟩))) (hset : SetAt w b g nb ws) (hT : TzAt w) :
  SeqStopsK Fence.wide n Tryd.prog 56 #[.pointer (some ⟨Bs, 0, none⟩)] (fun x : Inb ws => #[Value.int .i64 (x.1 : Int)]) (KeepB g) (fun ys => ys.map Subtype.val = blist ws) (fun _ => True) (blist ws).length w :=
 each_stopsC n hn Bs b g nb ws.length ws w hc hset.toC hT
end Go.Proofs.YtbcoejmiihgfoaaDoor
