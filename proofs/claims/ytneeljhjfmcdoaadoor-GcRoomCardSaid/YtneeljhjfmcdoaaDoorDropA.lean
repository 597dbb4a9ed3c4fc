/- bits.Set.Drop, whatever the number. -/
import Derived.Test.YtneeljhjfmcdoaaDoorAddA
namespace Go.Proofs.YtneeljhjfmcdoaaDoor
open Go.RowKit

/-- A number taken out (it is in). -/
def bdrop (ws : List Nat) (i : Nat) : List Nat := ws.set (i / 64) (ws.getD (i / 64) 0 ^^^ 2 ^ (i % 64))
theorem bdrop_get (ws : List Nat) (i j : Nat) (h : bhas ws i = true) : bhas (bdrop ws i) j = (bhas ws j && !decide (i = j)) := by
  have hi : i / 64 < ws.length := by
    refine Decidable.byContradiction fun hc => ?_
    unfold bhas at h
    rw [List.getD_eq_getElem?_getD, List.getElem?_eq_none (by omega)] at h
    simp at h
  unfold bhas at h
  unfold bhas bdrop
  simp only [List.getD_eq_getElem?_getD, List.getElem?_set] at h ⊢
  by_cases hq : i / 64 = j / 64
  · rw [if_pos hq, if_pos hi]
    simp only [Option.getD_some, Nat.testBit_xor, Nat.testBit_two_pow]
    by_cases he : i = j
    · subst he; rw [h]; simp
    · have h2 : ¬ i % 64 = j % 64 := by omega
      rw [hq]; simp [he, h2]
  · rw [if_neg hq]
    have : ¬ i = j := fun e => hq (by rw [e])
    simp [this]
theorem andnot_bit (x k : Nat) (h : x < 2 ^ 64) (hk : k < 64) (hb : x.testBit k = true) : bits BinOp.andNot IntKind.u64 (x : Int) (IntKind.u64.wrap (2 ^ k)) = ((x ^^^ 2 ^ k : Nat) : Int) := by
  have h2 : 2 ^ k < 18446744073709551616 := by
    have := Nat.pow_lt_pow_right (a := 2) (by omega) hk
    simpa using this
  have e1 : IntKind.u64.wrap (2 ^ k) = ((2 ^ k : Nat) : Int) := by
    rw [show ((2 : Int) ^ k) = ((2 ^ k : Nat) : Int) by simp]
    rw [IntKind.wrap_u64]
    generalize 2 ^ k = y at h2 ⊢
    omega
  rw [e1]
  show IntKind.u64.wrap ((BitVec.ofInt 64 (x : Int) &&& ~~~ BitVec.ofInt 64 ((2 ^ k : Nat) : Int)).toNat : Int) = _
  have e3 : (BitVec.ofInt 64 (x : Int) &&& ~~~ BitVec.ofInt 64 ((2 ^ k : Nat) : Int)).toNat = x ^^^ 2 ^ k := by
    have e4 : BitVec.ofInt 64 (x : Int) &&& ~~~ BitVec.ofInt 64 ((2 ^ k : Nat) : Int) = BitVec.ofNat 64 (x ^^^ 2 ^ k) := by
      apply BitVec.eq_of_getLsbD_eq
      intro i hi
      rw [BitVec.getLsbD_and, BitVec.getLsbD_not, BitVec.ofInt_natCast, BitVec.ofInt_natCast, BitVec.getLsbD_ofNat, BitVec.getLsbD_ofNat, BitVec.getLsbD_ofNat, Nat.testBit_xor, Nat.testBit_two_pow]
      by_cases hki : k = i
      · subst hki; simp [hi, hb]
      · simp [hi, hki]
    rw [e4, BitVec.toNat_ofNat]
    exact Nat.mod_eq_of_lt (Nat.xor_lt_two_pow h (by simpa using h2))
  rw [e3, IntKind.wrap_u64]
  have := Nat.xor_lt_two_pow (n := 64) h (by simpa using h2)
  omega
theorem SetAt.unset {w : World} {b g n : Nat} {ws : List Nat} (h : SetAt w b g n ws) (i : Nat) (hb : bhas ws i = true) :
    SetAt (w.setCell ⟨g, i / 64, none⟩ (.int .u64 ((ws.getD (i / 64) 0 ^^^ 2 ^ (i % 64) : Nat) : Int))) b g n (bdrop ws i) := by
  have hne : b ≠ g := by
    rintro rfl
    have := h.1.symm.trans h.2.1
    simp at this
  have hl := h.2.2.2.1
  have hlen : (bdrop ws i).length = ws.length := by simp [bdrop]
  refine ⟨?_, ?_, h.2.2.1, by rw [hlen]; exact hl, ?_, ?_⟩
  · rw [Below.heap_setCell _ _ _ _ hne, hlen]; exact h.1
  · rw [heap_setCell h.2.1, ucells_set]; rfl
  · intro j hj
    rw [hlen] at hj
    unfold bdrop
    rw [List.getD_eq_getElem?_getD, List.getElem?_set]
    split
    · split
      · exact Nat.xor_lt_two_pow (h.2.2.2.2.1 _ (by omega)) (Nat.pow_lt_pow_right (by omega) (Nat.mod_lt _ (by omega)))
      · simp
    · have := h.2.2.2.2.1 j hj
      rwa [List.getD_eq_getElem?_getD] at this
  · intro j hj
    rw [bdrop_get _ _ _ hb, Bool.and_eq_true] at hj
    exact h.2.2.2.2.2 j hj.1

set_option maxHeartbeats 400000 in
theorem drop_yes (b g n i : Nat) (ws : List Nat) (w : World) (h : SetAt w b g n ws) (hyes : bhas ws i = true) :
    Calls Tryd.prog 89 #[.pointer (some ⟨b, 0, none⟩), .int .i64 i] w fun e w' => e = .returned (.bool true) ∧ SetAt w' b g n (bdrop ws i) ∧ Upd [g] w w' := by
  have h1 := h.2.2.2.2.2 i hyes
  have hc := h.c1
  have hl := h.2.2.2.1
  have hn := h.2.2.1
  have hx := h.word (i / 64) (by omega)
  have hf := h.free (i / 64)
  have HX64 := Lib.hid (h.2.2.2.2.1 (i / 64) (by omega))
  have HL := Lib.hid hl
  clear hl
  have hll : i / 64 < ws.length := by have := HL.out; omega
  have HB := Lib.hid (show (ws.getD (i / 64) 0).testBit (i % 64) = true from hyes)
  have HS := Lib.hid (h.unset i hyes)
  have hq : i % 64 < 64 := Nat.mod_lt _ (by omega)
  generalize hxx : ws.getD (i / 64) 0 = x at hx HX64 HB
  have HXX := Lib.hid hxx
  clear hxx
  have H := Lib.hid h
  have HY := Lib.hid hyes
  clear h hyes
  go_enter Tryd.func89, Tryd.ntmps89
  go_wp2_with fail
  refine (has_in _ _ _ _ _ _ H.out (by omega)).mono ?_
  rintro e w' ⟨rfl, rfl⟩
  rw [HY.out]
  go_wp2_with fail
  go_region
  rw [andnot_bit x (i % 64) HX64.out hq HB.out]
  have HS2 : Hid (SetAt (w.setCell ⟨g, i / 64, none⟩ (.int .u64 ((x ^^^ 2 ^ (i % 64) : Nat) : Int))).drew b g n (bdrop ws i)) := by
    have := HS.out
    rw [HXX.out] at this
    exact this
  have HU2 : Hid (Upd [g] w (w.setCell ⟨g, i / 64, none⟩ (.int .u64 ((x ^^^ 2 ^ (i % 64) : Nat) : Int))).drew) := ((Upd.refl _ _).setCell (by simp) _).drew
  generalize (w.setCell ⟨g, i / 64, none⟩ (.int .u64 ((x ^^^ 2 ^ (i % 64) : Nat) : Int))).drew = w2 at *
  go_wp2_with fail
  go_ret
  exact ⟨rfl, HS2.out, HU2.out⟩

/-- Whether a number, whatever it is, is in. -/
def bhasI (ws : List Nat) (i : Int) : Bool := decide (0 ≤ i) && bhas ws i.toNat
theorem hasI_any (b g n : Nat) (i : Int) (ws : List Nat) (w : World) (h : SetAt w b g n ws) :
    Calls Tryd.prog 43 #[.pointer (some ⟨b, 0, none⟩), .int .i64 i] w fun e w' => e = .returned (.bool (bhasI ws i)) ∧ w = w' := by
  by_cases h0 : i < 0 ∨ (n : Int) ≤ i
  · have e : bhasI ws i = false := by
      unfold bhasI
      rw [Bool.and_eq_false_iff]
      rcases h0 with h0 | h0
      · left; simp; omega
      · right
        cases hb : bhas ws i.toNat with
        | false => rfl
        | true => have := h.2.2.2.2.2 _ hb; omega
    rw [e]
    exact has_out b g n i ws w h h0
  · obtain ⟨k, rfl⟩ := Int.eq_ofNat_of_zero_le (show 0 ≤ i by omega)
    have e : bhasI ws (k : Int) = bhas ws k := by unfold bhasI; simp
    rw [e]
    exact has_in b g n k ws w h (by omega)
set_option maxHeartbeats 400000 in
/-- Take a number out of a set, whatever it is. -/
theorem drop_any (b g n : Nat) (i : Int) (ws : List Nat) (w : World) (h : SetAt w b g n ws) :
    Calls Tryd.prog 89 #[.pointer (some ⟨b, 0, none⟩), .int .i64 i] w fun e w' => ∃ (ws' : List Nat), e = .returned (.bool (bhasI ws i)) ∧ SetAt w' b g n ws' ∧ (∀ p, bhas ws' p = (bhas ws p && !decide (i = (p : Int)))) ∧ Upd [g] w w' := by
  cases hb : bhasI ws i with
  | true =>
    unfold bhasI at hb
    rw [Bool.and_eq_true, decide_eq_true_eq] at hb
    obtain ⟨k, rfl⟩ := Int.eq_ofNat_of_zero_le hb.1
    rw [Int.toNat_natCast] at hb
    refine (drop_yes b g n k ws w h hb.2).mono ?_
    rintro e w' ⟨rfl, h1, h2⟩
    refine ⟨_, rfl, h1, fun p => ?_, h2⟩
    rw [bdrop_get _ _ _ hb.2]
    congr 2
    rw [decide_eq_decide]; omega
  | false =>
    have HB := Lib.hid hb
    have hh := hasI_any b g n i ws w h
    rw [hb] at hh
    have H := Lib.hid h
    have HH := Lib.hid hh
    clear h hb hh
    go_enter Tryd.func89, Tryd.ntmps89
    go_wp2_with fail
    refine HH.out.mono ?_
    rintro e w' ⟨rfl, rfl⟩
    go_wp2_with fail
    go_ret
    refine ⟨ws, rfl, H.out, fun p => ?_, Upd.refl _ _⟩
    by_cases e : i = (p : Int)
    · subst e
      have := HB.out
      unfold bhasI at this
      simp at this
      rw [this]; rfl
    · simp [e]
end Go.Proofs.YtneeljhjfmcdoaaDoor
