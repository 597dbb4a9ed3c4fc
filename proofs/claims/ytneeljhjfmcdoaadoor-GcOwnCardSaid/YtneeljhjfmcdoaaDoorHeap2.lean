/- The heap: objects are laid. -/
import Derived.Test.YtneeljhjfmcdoaaDoorHeap
import Derived.RegionCalls
namespace Go.Proofs.YtneeljhjfmcdoaaDoor
open Go.RowKit

theorem getD_splice (L cs : List Int) (o i : Nat) (h : o + cs.length ≤ L.length) :
    (splice L o cs).getD i 0 = if o ≤ i ∧ i < o + cs.length then cs.getD (i - o) 0 else L.getD i 0 := by
  unfold splice
  simp only [List.getD_eq_getElem?_getD]
  by_cases h1 : i < o
  · rw [List.getElem?_append_left (by simp; omega), if_neg (by omega)]
    simp [h1]
  · rw [List.getElem?_append_right (by simp; omega)]
    have e1 : (L.take o).length = o := by simp; omega
    rw [e1]
    by_cases h2 : i < o + cs.length
    · rw [if_pos ⟨by omega, h2⟩, List.getElem?_append_left (by omega)]
    · rw [if_neg (by omega), List.getElem?_append_right (by omega), List.getElem?_drop]
      congr 2; omega
theorem getD_set (L : List Int) (k i : Nat) (v : Int) (hk : k < L.length) : (L.set k v).getD i 0 = if i = k then v else L.getD i 0 := by
  simp only [List.getD_eq_getElem?_getD, List.getElem?_set]
  by_cases h : k = i
  · subst h; simp [hk]
  · rw [if_neg h, if_neg (fun e => h e.symm)]
theorem clearL_len (L : List Int) (fr to : Int) : (clearL L fr to).length = L.length := by
  unfold clearL
  by_cases c : ((min to (L.length : Int)) - (max fr 0)).toNat = 0
  · rw [c]; simp [splice]
  · exact length_splice _ _ _ (by rw [List.length_replicate]; omega)
theorem getD_rep (m i : Nat) : (List.replicate m (0 : Int)).getD i 0 = 0 := by
  simp only [List.getD_eq_getElem?_getD, List.getElem?_replicate]
  split <;> rfl
theorem getD_clear (L : List Int) (a b i : Nat) (hb : b ≤ L.length) (hab : a ≤ b) : (clearL L (a : Int) (b : Int)).getD i 0 = if a ≤ i ∧ i < b then 0 else L.getD i 0 := by
  unfold clearL
  have e : ((min (b : Int) (L.length : Int)) - (max (a : Int) 0)).toNat = b - a := by omega
  rw [e, Int.toNat_natCast, getD_splice _ _ _ _ (by simp; omega), List.length_replicate]
  by_cases h : a ≤ i ∧ i < b
  · rw [if_pos (by omega), if_pos h, getD_rep]
  · rw [if_neg (by omega), if_neg h]

/-- The words that an object of a class wants; 0: there is no such one. -/
def Hp.words (S : Hp) (c n : Int) : Int :=
  if c < -2 ∨ (S.cs.length : Int) ≤ c ∨ c < 0 ∧ (n < 0 ∨ 50 < n) then 0
  else if 0 ≤ c then 2 + (S.cs.getD c.toNat ByteArray.empty).size else 2 + n

set_option maxHeartbeats 400000 in
theorem pin_yes (i n : Int) (w : World) (h0 : 0 ≤ i) (h1 : i < n) : Calls Tryd.prog 91 #[.int .i64 i, .int .i64 n] w fun e w' => e = .returned (.bool true) ∧ w = w' := by
  have d0 : decide (0 ≤ i) = true := by simpa using h0
  have d1 : decide (i < n) = true := by simpa using h1
  go_enter Tryd.func91, Tryd.ntmps91
  go_wp2_with fail
  go_ret
  exact ⟨rfl, rfl⟩
set_option maxHeartbeats 400000 in
theorem pin_no (i n : Int) (w : World) (h0 : i < 0) : Calls Tryd.prog 91 #[.int .i64 i, .int .i64 n] w fun e w' => e = .returned (.bool false) ∧ w = w' := by
  have d0 : decide (0 ≤ i) = false := by simpa using h0
  go_enter Tryd.func91, Tryd.ntmps91
  go_wp2_with fail
  go_ret
  exact ⟨rfl, rfl⟩

set_option maxHeartbeats 400000 in
theorem pwords_class (cv mv : Value) (b o k : Nat) (n : Int) (cs : List ByteArray) (w : World) (h : ClsAt w cv b o cs) (hk : k < cs.length) (_hs : cs.length ≤ 1000) (hz : (cs.getD k ByteArray.empty).size ≤ 1000) :
    Calls Tryd.prog 86 #[.agg #[cv, mv], .int .i64 k, .int .i64 n] w fun e w' => e = .returned (.int .i64 (2 + (cs.getD k ByteArray.empty).size)) ∧ Upd [] w w' := by
  obtain ⟨hv, hc⟩ := h
  obtain ⟨cap, rfl⟩ : ∃ cap, cv = .slice (some ⟨b, o, none⟩) cs.length cap := by
    rcases hv with ⟨_, ha⟩ | ⟨x, cap, hv, ha | rfl⟩
    · rw [ha] at hk; simp at hk
    · rw [ha] at hk; simp at hk
    · exact ⟨cap, hv⟩
  clear hv
  have hcell := ((Upd.refl [] w).alloc (.cells #[.slice (some ⟨b, o, none⟩) cs.length cap, mv] 28)).cell (hc k hk) (by simp)
  clear hc
  generalize cs.getD k ByteArray.empty = fs at *
  go_enter Tryd.func86, Tryd.ntmps86
  go_wp2_with fail
  refine (pin_yes _ _ _ (by omega) (by omega)).mono ?_
  rintro e w' ⟨rfl, rfl⟩
  go_wp2_with fail
  go_ret
  exact ⟨rfl, (Upd.refl _ _).alloc _⟩

set_option maxHeartbeats 400000 in
theorem pwords_array (cv mv : Value) (b o : Nat) (c n : Int) (cs : List ByteArray) (w : World) (h : ClsAt w cv b o cs) (hc0 : c < 0) (h0 : 0 ≤ n) (h1 : n ≤ 1000) :
    Calls Tryd.prog 86 #[.agg #[cv, mv], .int .i64 c, .int .i64 n] w fun e w' => e = .returned (.int .i64 (2 + n)) ∧ Upd [] w w' := by
  obtain ⟨a, cap, rfl⟩ := h.shape
  clear h
  go_enter Tryd.func86, Tryd.ntmps86
  go_wp2_with fail
  refine (pin_no _ _ _ (by omega)).mono ?_
  rintro e w' ⟨rfl, rfl⟩
  go_wp2_with fail
  go_ret
  exact ⟨rfl, (Upd.refl _ _).alloc _⟩

set_option maxHeartbeats 800000 in
theorem words_any (L : HL) (cv mv : Value) (S : Hp) (c n : Int) (w : World) (h : HpAt w L cv mv S) :
    Calls Tryd.prog 66 #[.pointer (some ⟨L.hb, 0, none⟩), .int .i64 c, .int .i64 n] w fun e w' => e = .returned (.int .i64 (S.words c n)) ∧ Upd [] w w' := by
  have hcl := h.cls
  have h0 := h.c0
  have h1 : w.cell? ⟨L.hb, 1, none⟩ = some mv := by rw [cell_of h.hb]; rfl
  have hfew := h.ok.few
  obtain ⟨a, cap, hcv⟩ := h.cls.shape
  rw [hcv] at h0
  by_cases c1 : c < -2
  · have HE := Lib.hid (show S.words c n = 0 by unfold Hp.words; rw [if_pos (.inl c1)])
    go_enter Tryd.func66, Tryd.ntmps66
    go_wp2_with fail
    go_ret
    exact ⟨by rw [HE.out]; rfl, Upd.refl _ _⟩
  · by_cases c2 : (S.cs.length : Int) ≤ c
    · have HE := Lib.hid (show S.words c n = 0 by unfold Hp.words; rw [if_pos (.inr (.inl c2))])
      go_enter Tryd.func66, Tryd.ntmps66
      go_wp2_with fail
      go_ret
      exact ⟨by rw [HE.out]; rfl, Upd.refl _ _⟩
    · by_cases c3 : c < 0
      · have d3 : decide (c < 0) = true := by simpa using c3
        by_cases c4 : n < 0
        · have HE := Lib.hid (show S.words c n = 0 by unfold Hp.words; rw [if_pos (.inr (.inr ⟨c3, .inl c4⟩))])
          have d4 : decide (n < 0) = true := by simpa using c4
          go_enter Tryd.func66, Tryd.ntmps66
          go_wp2_with fail
          go_ret
          exact ⟨by rw [HE.out]; rfl, Upd.refl _ _⟩
        · by_cases c5 : 50 < n
          · have HE := Lib.hid (show S.words c n = 0 by unfold Hp.words; rw [if_pos (.inr (.inr ⟨c3, .inr c5⟩))])
            have d4 : decide (n < 0) = false := by simpa using c4
            have d5 : decide (50 < n) = true := by simpa using c5
            go_enter Tryd.func66, Tryd.ntmps66
            go_wp2_with fail
            go_ret
            exact ⟨by rw [HE.out]; rfl, Upd.refl _ _⟩
          · have HE := Lib.hid (show S.words c n = 2 + n by unfold Hp.words; rw [if_neg (by omega), if_neg (by omega)])
            have d4 : decide (n < 0) = false := by simpa using c4
            have d5 : decide (50 < n) = false := by simpa using c5
            rw [hcv] at hcl
            clear hcv
            go_enter Tryd.func66, Tryd.ntmps66
            go_wp2_with fail
            refine (pwords_array _ _ _ _ _ _ _ _ hcl c3 (by omega) (by omega)).mono ?_
            rintro e w' ⟨rfl, hu⟩
            go_wp2_with fail
            go_ret
            exact ⟨by rw [HE.out]; rfl, hu⟩
      · have d3 : decide (c < 0) = false := by simpa using c3
        obtain ⟨k, rfl⟩ := Int.eq_ofNat_of_zero_le (show 0 ≤ c by omega)
        have HE := Lib.hid (show S.words k n = 2 + (S.cs.getD k ByteArray.empty).size by unfold Hp.words; rw [if_neg (by omega), if_pos (by omega), Int.toNat_natCast])
        have hsm : (S.cs.getD k ByteArray.empty).size ≤ 10 := by
          have hk : k < S.cs.length := by omega
          rw [List.getD_eq_getElem?_getD, List.getElem?_eq_getElem hk]
          exact h.ok.small _ (List.getElem_mem hk)
        rw [hcv] at hcl
        clear hcv
        go_enter Tryd.func66, Tryd.ntmps66
        go_wp2_with fail
        refine (pwords_class _ _ _ _ _ _ _ _ hcl (by omega) (by omega) (by omega)).mono ?_
        rintro e w' ⟨rfl, hu⟩
        go_wp2_with fail
        go_ret
        exact ⟨by rw [HE.out]; rfl, hu⟩

end Go.Proofs.YtneeljhjfmcdoaaDoor
