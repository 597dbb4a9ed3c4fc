/- The look at a method, plain: so many are pushed and put out. -/
import Derived.Test.YtjndigfmemdmjaaDoorVerL7
namespace Go.Proofs.YtjndigfmemdmjaaDoor

theorem cut_tail {α : Type} (u v : List α) : (u ++ v).drop ((u ++ v).length - v.length) = v ∧ (u ++ v).take ((u ++ v).length - v.length) = u := by
  have h : (u ++ v).length - v.length = u.length := by rw [List.length_append]; omega
  rw [h]
  exact ⟨by simp, by simp⟩
theorem behL_of {p : Prg} {m : Meth} {x : Ins} {u pop push : List UInt8} (h5 : x.op ≠ 5) (h6 : x.op ≠ 6) (h7 : x.op ≠ 7) (he : effL p m x = some (pop, push)) (hl : (u ++ push).length ≤ 12) (hr : x.op ≠ 33 ∨ u ++ push = []) : behL p m x (u ++ pop) = .ok (u ++ push) := by
  unfold behL
  rw [if_neg h5, if_neg h6, if_neg h7, he]
  simp only
  rw [if_neg (by rw [List.length_append]; omega), (cut_tail u pop).1, (cut_tail u pop).2, if_neg (fun h => h rfl), if_neg]
  rintro (h | ⟨h, h2⟩)
  · omega
  · rcases hr with h3 | h3
    · exact h3 h
    · exact h2 h3
theorem behL_much {p : Prg} {m : Meth} {x : Ins} {u pop push : List UInt8} (h5 : x.op ≠ 5) (h6 : x.op ≠ 6) (h7 : x.op ≠ 7) (he : effL p m x = some (pop, push)) (hl : 12 < (u ++ push).length) : behL p m x (u ++ pop) = .error 108 := by
  unfold behL
  rw [if_neg h5, if_neg h6, if_neg h7, he]
  simp only
  rw [if_neg (by rw [List.length_append]; omega), (cut_tail u pop).1, (cut_tail u pop).2, if_neg (fun h => h rfl), if_pos (.inl hl)]
theorem nextL_on {xs : List Ins} {i : Nat} (hi : i < xs.length) (h1 : (xs.getD i default).op ≠ 33) (h2 : (xs.getD i default).op ≠ 22) (h3 : (xs.getD i default).op ≠ 23) : nextL xs i = [(i : Int) + 1] := by
  unfold nextL
  rw [if_pos ⟨by omega, by omega⟩]
  simp only [Int.toNat_natCast]
  rw [if_neg h1, if_neg h2, if_neg h3]
theorem nextL_ret {xs : List Ins} {i : Nat} (hi : i < xs.length) (h1 : (xs.getD i default).op = 33) : nextL xs i = [] := by
  unfold nextL
  rw [if_pos ⟨by omega, by omega⟩]
  simp only [Int.toNat_natCast]
  rw [if_pos h1]
theorem eff_const (p : Prg) (m : Meth) (x : Ins) (h : x.op = 1) : effL p m x = some ([], [lI]) := by
  unfold effL; simp [h]
theorem eff_out (p : Prg) (m : Meth) (x : Ins) (h : x.op = 35) : effL p m x = some ([lI], []) := by
  unfold effL; simp [h]
theorem eff_ret (p : Prg) (m : Meth) (x : Ins) (h : x.op = 33) : effL p m x = some (m.ret.toList, []) := by
  unfold effL; simp [h]

/-- So many are pushed, and put out. -/
def highC (n : Nat) : List Ins := (List.range n).map (fun i => ⟨1, 0, 0, (i : Int)⟩) ++ List.replicate n ⟨35, 0, 0, 0⟩ ++ [⟨33, 0, 0, 0⟩]
theorem highC_len (n : Nat) : (highC n).length = 2 * n + 1 := by
  unfold highC; simp; omega
theorem highC_const (n i : Nat) (hi : i < n) : ((highC n).getD i default).op = 1 := by
  unfold highC
  rw [List.getD_eq_getElem?_getD, List.append_assoc, List.getElem?_append_left (by simpa using hi), List.getElem?_map, List.getElem?_range hi]
  rfl
theorem highC_out (n i : Nat) (hi : n ≤ i) (h2 : i < 2 * n) : ((highC n).getD i default).op = 35 := by
  unfold highC
  rw [List.getD_eq_getElem?_getD, List.getElem?_append_left (by simp; omega), List.getElem?_append_right (by simpa using hi), List.getElem?_replicate]
  simp only [List.length_map, List.length_range]
  rw [if_pos (by omega)]
  rfl
theorem highC_ret (n : Nat) : ((highC n).getD (2 * n) default).op = 33 := by
  unfold highC
  rw [List.getD_eq_getElem?_getD, List.getElem?_append_right (by simp; omega)]
  simp only [List.length_append, List.length_map, List.length_range, List.length_replicate]
  rw [show 2 * n - (n + n) = 0 by omega]
  rfl
def highS (n i : Nat) : List UInt8 := List.replicate (min i (2 * n - i)) lI
theorem high_row (n : Nat) (hn : n ≤ 12) : Row (withM (plainM (highC n))) (plainM (highC n)) (highS n) (2 * n) := by
  refine ⟨by show 2 * n < (highC n).length; rw [highC_len]; omega, by simp [highS], fun i hi => ?_, fun i hi => ?_⟩
  · show behL _ _ ((highC n).getD i default) _ = _
    rcases Nat.lt_or_ge i n with h | h
    · have h1 := highC_const n i h
      have h2 : highS n i = highS n i ++ [] := by simp
      have h3 : highS n (i + 1) = highS n i ++ [lI] := by
        unfold highS
        rw [show min (i + 1) (2 * n - (i + 1)) = min i (2 * n - i) + 1 by omega, List.replicate_succ']
      rw [h2, h3]
      refine behL_of (by omega) (by omega) (by omega) (eff_const _ _ _ h1) ?_ (.inl (by omega))
      unfold highS; simp; omega
    · have h1 := highC_out n i h hi
      have h2 : highS n i = highS n (i + 1) ++ [lI] := by
        unfold highS
        rw [show min i (2 * n - i) = min (i + 1) (2 * n - (i + 1)) + 1 by omega, List.replicate_succ']
      have h3 : highS n (i + 1) = highS n (i + 1) ++ [] := by simp
      rw [h2]
      refine (behL_of (by omega) (by omega) (by omega) (eff_out _ _ _ h1) ?_ (.inl (by omega))).trans (by rw [← h3])
      unfold highS; simp; omega
  · show nextL (highC n) i = _
    have hl := highC_len n
    rcases Nat.lt_or_ge i n with h | h
    · have h1 := highC_const n i h
      exact nextL_on (by omega) (by omega) (by omega) (by omega)
    · have h1 := highC_out n i h hi
      exact nextL_on (by omega) (by omega) (by omega) (by omega)
theorem high_most (n : Nat) : ∀ i, i ≤ 2 * n + 1 → mostS (highS n) i = min i n
  | 0, _ => by simp [mostS]
  | i + 1, hi => by
    show max (mostS (highS n) i) (max (highS n i).length (highS n (i + 1)).length) = _
    rw [high_most n i (by omega)]
    unfold highS
    simp only [List.length_replicate]
    omega
/-- So many may be. -/
theorem high_ok (n : Nat) (hn : n ≤ 12) : lookM (withM (plainM (highC n))) (plainM (highC n)) = .ok (strS (2 * n + 1) (highS n) (2 * n + 1) (2 * n)) := by
  have h := (high_row n hn).ret (m := plainM (highC n)) (p := withM (plainM (highC n)))
    (by
      have h1 := highC_ret n
      have h2 : highS n (2 * n) = [] := by unfold highS; simp
      have h3 : highS n (2 * n + 1) = [] := by unfold highS; simp
      rw [h2, h3]
      have h4 := behL_of (p := withM (plainM (highC n))) (m := plainM (highC n)) (x := (highC n).getD (2 * n) default) (u := []) (pop := []) (push := []) (by omega) (by omega) (by omega) (by rw [eff_ret _ _ _ h1]; show some (ByteArray.empty.toList, []) = _; rw [empty_toList]) (by simp) (.inr rfl)
      exact h4)
    (nextL_ret (by show _ < (highC n).length; rw [highC_len]; omega) (highC_ret n))
  have h5 : (plainM (highC n)).code.length = 2 * n + 1 := highC_len n
  rw [h5] at h
  exact h
/-- One more may not. -/
theorem high_bad (n : Nat) (hn : 12 < n) : lookM (withM (plainM (highC n))) (plainM (highC n)) = .error (108, 12) := by
  have hr : Row (withM (plainM (highC n))) (plainM (highC n)) (fun i => List.replicate i lI) 12 := by
    have hl := highC_len n
    refine ⟨by show 12 < (highC n).length; omega, rfl, fun i hi => ?_, fun i hi => ?_⟩
    · show behL _ _ ((highC n).getD i default) _ = _
      have h1 := highC_const n i (by omega)
      have h3 : List.replicate (i + 1) lI = List.replicate i lI ++ [lI] := List.replicate_succ'
      rw [h3, ← List.append_nil (List.replicate i lI)]
      refine (behL_of (by omega) (by omega) (by omega) (eff_const _ _ _ h1) ?_ (.inl (by omega))).trans (by simp)
      simp; omega
    · have h1 := highC_const n i (by omega)
      exact nextL_on (by show i < (highC n).length; omega) (by show ((highC n).getD i default).op ≠ 33; omega) (by show ((highC n).getD i default).op ≠ 22; omega) (by show ((highC n).getD i default).op ≠ 23; omega)
  refine hr.bad ?_
  show behL _ _ ((highC n).getD 12 default) _ = _
  have h1 := highC_const n 12 hn
  have h4 := behL_much (p := withM (plainM (highC n))) (m := plainM (highC n)) (x := (highC n).getD 12 default) (u := List.replicate 12 lI) (pop := []) (push := [lI]) (by omega) (by omega) (by omega) (eff_const _ _ _ h1) (by simp)
  rw [List.append_nil] at h4
  exact h4

end Go.Proofs.YtjndigfmemdmjaaDoor
