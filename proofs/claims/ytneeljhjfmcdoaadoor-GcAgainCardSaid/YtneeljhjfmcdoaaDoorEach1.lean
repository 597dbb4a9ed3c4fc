/- Which numbers are in a set, rising; the lowest bit of a word. No program in sight. -/
import Derived.Test.YtneeljhjfmcdoaaDoorBits
import Derived.Lib.TrailingZeros
namespace Go.Proofs.YtneeljhjfmcdoaaDoor
open Go.RowKit

/-- The numbers of the set below m, rising. -/
def bupto (ws : List Nat) (m : Nat) : List Nat := (List.range m).filter (bhas ws)
/-- All numbers of the set, rising. -/
def blist (ws : List Nat) : List Nat := bupto ws (64 * ws.length)

theorem bupto_zero (ws : List Nat) : bupto ws 0 = [] := rfl
theorem bupto_yes (ws : List Nat) (m : Nat) (h : bhas ws m = true) : bupto ws (m + 1) = bupto ws m ++ [m] := by
  simp [bupto, List.range_succ, List.filter_append, h]
theorem bupto_no (ws : List Nat) (m : Nat) (h : bhas ws m = false) : bupto ws (m + 1) = bupto ws m := by
  simp [bupto, List.range_succ, List.filter_append, h]
theorem bupto_skip (ws : List Nat) (a d : Nat) (h : ∀ j, a ≤ j → j < a + d → bhas ws j = false) : bupto ws (a + d) = bupto ws a := by
  induction d with
  | zero => rfl
  | succ d ih =>
    rw [← Nat.add_assoc, bupto_no ws (a + d) (h _ (by omega) (by omega))]
    exact ih (fun j h1 h2 => h j h1 (by omega))
theorem mem_bupto (ws : List Nat) (m i : Nat) : i ∈ bupto ws m ↔ i < m ∧ bhas ws i = true := by
  simp [bupto]
theorem bhas_lt (ws : List Nat) (i : Nat) (h : bhas ws i = true) : i < 64 * ws.length := by
  unfold bhas at h
  rcases Nat.lt_or_ge (i / 64) ws.length with c | c
  · omega
  · rw [List.getD_eq_getElem?_getD, List.getElem?_eq_none c] at h
    simp at h
theorem mem_blist (ws : List Nat) (i : Nat) : i ∈ blist ws ↔ bhas ws i = true := by
  unfold blist
  rw [mem_bupto]
  exact ⟨fun h => h.2, fun h => ⟨bhas_lt ws i h, h⟩⟩
theorem bupto_sorted (ws : List Nat) (m : Nat) : (bupto ws m).Pairwise (· < ·) := List.pairwise_lt_range.filter _
theorem blist_sorted (ws : List Nat) : (blist ws).Pairwise (· < ·) := bupto_sorted _ _
theorem bupto_len (ws : List Nat) (m : Nat) : (bupto ws m).length ≤ m := by
  have := List.length_filter_le (bhas ws) (List.range m)
  simpa [bupto] using this
theorem bupto_mono (ws : List Nat) (a b : Nat) (h : a ≤ b) : (bupto ws a).length ≤ (bupto ws b).length := by
  obtain ⟨d, rfl⟩ : ∃ d, b = a + d := ⟨b - a, by omega⟩
  clear h
  induction d with
  | zero => exact Nat.le_refl _
  | succ d ih =>
    rw [← Nat.add_assoc]
    cases hb : bhas ws (a + d) with
    | true => rw [bupto_yes ws _ hb]; simp; omega
    | false => rw [bupto_no ws _ hb]; exact ih

theorem low_bit (x : Nat) (h0 : x ≠ 0) (h : x < 2 ^ 64) : Lib.ctz 64 x < 64 ∧ x.testBit (Lib.ctz 64 x) = true ∧ (∀ j, j < Lib.ctz 64 x → x.testBit j = false) ∧ ∀ j, (x &&& (x - 1)).testBit j = (x.testBit j && decide (Lib.ctz 64 x < j)) := by
  have e : Lib.ctz 64 x = Lib.ctzFrom 64 x := by unfold Lib.ctz; rw [if_neg h0]
  obtain ⟨m, hm, hc⟩ := Lib.ctzFrom_spec 64 x (by omega) h
  rw [e]
  generalize Lib.ctzFrom 64 x = c at hm hc
  have hp : 0 < 2 ^ c := Nat.two_pow_pos c
  have hx : ∀ j, x.testBit j = if j < c then false else (2 * m + 1).testBit (j - c) := fun j => by
    have := Nat.testBit_two_pow_mul_add (i := c) (2 * m + 1) (b := 0) hp j
    rw [Nat.add_zero, ← hm] at this
    rw [this]
    simp
  have hx1 : ∀ j, (x - 1).testBit j = if j < c then (2 ^ c - 1).testBit j else (2 * m).testBit (j - c) := fun j => by
    have := Nat.testBit_two_pow_mul_add (i := c) (2 * m) (b := 2 ^ c - 1) (by omega) j
    rw [← this]
    congr 1
    rw [hm, Nat.mul_add, Nat.mul_one]
    omega
  refine ⟨hc, ?_, fun j hj => ?_, fun j => ?_⟩
  · rw [hx, if_neg (by omega), Nat.sub_self]
    simp
  · rw [hx, if_pos hj]
  · rw [Nat.testBit_and, hx1, hx]
    by_cases h1 : j < c
    · simp [h1]
    · rw [if_neg h1, if_neg h1]
      by_cases h2 : j = c
      · subst h2
        simp
      · obtain ⟨d, rfl⟩ : ∃ d, j = c + (d + 1) := ⟨j - c - 1, by omega⟩
        have e3 : c + (d + 1) - c = d + 1 := by omega
        rw [e3, Nat.testBit_succ, Nat.testBit_succ]
        have d1 : (2 * m + 1) / 2 = m := by omega
        have d2 : 2 * m / 2 = m := by omega
        rw [d1, d2]
        have h3 : c < c + (d + 1) := by omega
        simp [h3]

/-- One round of the inner loop. -/
theorem word_step (ws : List Nat) (k p x : Nat) (hp : p ≤ 64) (hx : ∀ j, x.testBit j = ((ws.getD k 0).testBit j && decide (p ≤ j))) (h0 : x ≠ 0) (h : x < 2 ^ 64) :
    p ≤ Lib.ctz 64 x ∧ Lib.ctz 64 x < 64 ∧ bhas ws (64 * k + Lib.ctz 64 x) = true ∧ bupto ws (64 * k + Lib.ctz 64 x) = bupto ws (64 * k + p) ∧ bupto ws (64 * k + (Lib.ctz 64 x + 1)) = bupto ws (64 * k + p) ++ [64 * k + Lib.ctz 64 x] ∧
      (∀ j, (x &&& (x - 1)).testBit j = ((ws.getD k 0).testBit j && decide (Lib.ctz 64 x + 1 ≤ j))) := by
  obtain ⟨h1, h2, h3, h4⟩ := low_bit x h0 h
  generalize Lib.ctz 64 x = c at *
  have hb : ∀ j, j < 64 → bhas ws (64 * k + j) = (ws.getD k 0).testBit j := fun j hj => by
    unfold bhas
    rw [show (64 * k + j) / 64 = k by omega, show (64 * k + j) % 64 = j by omega]
  have hpc : p ≤ c := by
    rw [hx] at h2
    simp at h2
    exact h2.2
  have hbc : bhas ws (64 * k + c) = true := by
    rw [hb c h1]
    rw [hx] at h2
    simp at h2
    exact h2.1
  have hsk : bupto ws (64 * k + c) = bupto ws (64 * k + p) := by
    have := bupto_skip ws (64 * k + p) (c - p) (fun j a b => by
      obtain ⟨i, rfl⟩ : ∃ i, j = 64 * k + i := ⟨j - 64 * k, by omega⟩
      rw [hb i (by omega)]
      have h5 := h3 i (by omega)
      rw [hx] at h5
      rw [decide_eq_true (by omega : p ≤ i)] at h5
      simpa using h5)
    rwa [show 64 * k + p + (c - p) = 64 * k + c by omega] at this
  refine ⟨hpc, h1, hbc, hsk, ?_, fun j => ?_⟩
  · rw [← Nat.add_assoc, bupto_yes ws _ hbc, hsk]
  · rw [h4, hx, Bool.and_assoc]
    congr 1
    rw [Bool.eq_iff_iff]
    simp
    omega

/-- The inner loop's end. -/
theorem word_end (ws : List Nat) (k p : Nat) (hp : p ≤ 64) (hx : ∀ j, (0 : Nat).testBit j = ((ws.getD k 0).testBit j && decide (p ≤ j))) : bupto ws (64 * (k + 1)) = bupto ws (64 * k + p) := by
  have := bupto_skip ws (64 * k + p) (64 - p) (fun j a b => by
    obtain ⟨i, rfl⟩ : ∃ i, j = 64 * k + i := ⟨j - 64 * k, by omega⟩
    unfold bhas
    rw [show (64 * k + i) / 64 = k by omega, show (64 * k + i) % 64 = i by omega]
    have h5 := hx i
    rw [decide_eq_true (by omega : p ≤ i)] at h5
    simpa using h5.symm)
  rwa [show 64 * k + p + (64 - p) = 64 * (k + 1) by omega] at this

theorem and_pred_lt (x : Nat) (h0 : x ≠ 0) : x &&& (x - 1) < x := Nat.lt_of_le_of_lt Nat.and_le_right (by omega)

end Go.Proofs.YtneeljhjfmcdoaaDoor
