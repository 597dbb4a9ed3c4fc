/- The look at a method, plain: values are pushed and taken off; which slots are references. -/
import Derived.Test.YtpmfbhoochogoaaDoorWithL
namespace Go.Proofs.YtpmfbhoochogoaaDoor

def lets (l : List Bool) : List UInt8 := l.map fun b => if b then lR else lI
theorem lets_len (l : List Bool) : (lets l).length = l.length := by simp [lets]
theorem eff_null (p : Prg) (m : Meth) (x : Ins) (h : x.op = 2) : effL p m x = some ([], [lR]) := by
  unfold effL; simp [h]
theorem eff_pushI (p : Prg) (m : Meth) (b : Bool) : effL p m (pushI b) = some ([], lets [b]) := by
  cases b
  · exact eff_const _ _ _ rfl
  · exact eff_null _ _ _ rfl
theorem pushI_op (b : Bool) : (pushI b).op = 1 ∨ (pushI b).op = 2 := by cases b; exact .inl rfl; exact .inr rfl
theorem behL_pop_of {p : Prg} {m : Meth} {x : Ins} {s : List UInt8} (hx : x.op = 6) (h : 1 ≤ s.length) (hl : s.length ≤ 12) : behL p m x s = .ok (s.take (s.length - 1)) := by
  unfold behL
  rw [if_neg (by omega), if_pos hx, if_neg (by omega)]
  simp only
  rw [if_neg]
  rintro (h1 | ⟨h1, _⟩)
  · rw [List.length_take] at h1; omega
  · omega

/-- So many are pushed, and taken off. -/
def refC (bs : List Bool) : List Ins := bs.map pushI ++ List.replicate bs.length ⟨6, 0, 0, 0⟩ ++ [⟨33, 0, 0, 0⟩]
theorem refC_len (bs : List Bool) : (refC bs).length = 2 * bs.length + 1 := by unfold refC; simp; omega
theorem refC_push (bs : List Bool) (i : Nat) (hi : i < bs.length) : (refC bs).getD i default = pushI (bs.getD i false) := by
  unfold refC
  rw [List.getD_eq_getElem?_getD, List.append_assoc, List.getElem?_append_left (by simpa using hi), List.getElem?_map, List.getD_eq_getElem?_getD, List.getElem?_eq_getElem hi]
  rfl
theorem refC_pop (bs : List Bool) (i : Nat) (hi : bs.length ≤ i) (h2 : i < 2 * bs.length) : (refC bs).getD i default = ⟨6, 0, 0, 0⟩ := by
  unfold refC
  rw [List.getD_eq_getElem?_getD, List.getElem?_append_left (by simp; omega), List.getElem?_append_right (by simpa using hi), List.getElem?_replicate]
  simp only [List.length_map]
  rw [if_pos (by omega)]
  rfl
theorem refC_ret (bs : List Bool) : (refC bs).getD (2 * bs.length) default = ⟨33, 0, 0, 0⟩ := by
  unfold refC
  rw [List.getD_eq_getElem?_getD, List.getElem?_append_right (by simp; omega)]
  simp only [List.length_append, List.length_map, List.length_replicate]
  rw [show 2 * bs.length - (bs.length + bs.length) = 0 by omega]
  rfl
def refS (bs : List Bool) (i : Nat) : List UInt8 := lets (bs.take (min i (2 * bs.length - i)))
theorem refS_len (bs : List Bool) (i : Nat) : (refS bs i).length = min i (2 * bs.length - i) := by
  unfold refS
  rw [lets_len, List.length_take]; omega
theorem lets_take (l : List Bool) (k : Nat) : (lets l).take k = lets (l.take k) := by simp [lets, List.map_take]
theorem take_last (bs : List Bool) (i : Nat) (hi : i < bs.length) : bs.take (i + 1) = bs.take i ++ [bs.getD i false] := by
  rw [List.take_add_one, List.getD_eq_getElem?_getD, List.getElem?_eq_getElem hi]; rfl
theorem ref_row (bs : List Bool) (hn : bs.length ≤ 12) (p : Prg) (m : Meth) (hm : m.code = refC bs) : Row p m (refS bs) (2 * bs.length) := by
  have hl := refC_len bs
  refine ⟨by rw [hm]; omega, by simp [refS, lets], fun i hi => ?_, fun i hi => ?_⟩
  · rw [hm]
    rcases Nat.lt_or_ge i bs.length with h | h
    · rw [refC_push bs i h]
      have h1 := pushI_op (bs.getD i false)
      have h3 : refS bs (i + 1) = refS bs i ++ lets [bs.getD i false] := by
        unfold refS
        rw [show min (i + 1) (2 * bs.length - (i + 1)) = i + 1 by omega, show min i (2 * bs.length - i) = i by omega, take_last bs i h]
        simp [lets]
      rw [h3, ← List.append_nil (refS bs i)]
      refine (behL_of (by omega) (by omega) (by omega) (eff_pushI p m _) ?_ (.inl (by omega))).trans (by simp)
      rw [List.length_append, refS_len, lets_len]
      show _ + 1 ≤ 12
      omega
    · rw [refC_pop bs i h hi, behL_pop_of rfl (by rw [refS_len]; omega) (by rw [refS_len]; omega)]
      rw [refS_len]
      unfold refS
      rw [lets_take, List.take_take]
      congr 3
      omega
  · rw [hm]
    rcases Nat.lt_or_ge i bs.length with h | h
    · have h1 := pushI_op (bs.getD i false)
      exact nextL_on (by omega) (by rw [refC_push bs i h]; omega) (by rw [refC_push bs i h]; omega) (by rw [refC_push bs i h]; omega)
    · exact nextL_on (by omega) (by rw [refC_pop bs i h hi]; decide) (by rw [refC_pop bs i h hi]; decide) (by rw [refC_pop bs i h hi]; decide)
theorem ref_ok (bs : List Bool) (hn : bs.length ≤ 12) (p : Prg) (m : Meth) (hm : m.code = refC bs) (hr : m.ret = ByteArray.empty) : lookM p m = .ok (strS (2 * bs.length + 1) (refS bs) (2 * bs.length + 1) (2 * bs.length)) := by
  have hl := refC_len bs
  have h := (ref_row bs hn p m hm).ret
    (by
      rw [hm, refC_ret]
      have h2 : refS bs (2 * bs.length) = [] := by unfold refS; simp [lets]
      have h3 : refS bs (2 * bs.length + 1) = [] := by unfold refS; simp [lets]
      rw [h2, h3]
      have h4 := behL_of (p := p) (m := m) (x := ⟨33, 0, 0, 0⟩) (u := []) (pop := []) (push := []) (by decide) (by decide) (by decide) (by rw [eff_ret _ _ _ rfl, hr, empty_toList]) (by decide) (.inr rfl)
      exact h4)
    (by rw [hm]; exact nextL_ret (by omega) (by rw [refC_ret]))
  rw [hm, hl] at h
  exact h
/-- What stands there when all are pushed. -/
theorem ref_mid (bs : List Bool) : (strS (2 * bs.length + 1) (refS bs) (2 * bs.length + 1) (2 * bs.length)).stk.getD bs.length [] = lets bs := by
  show ((List.range (2 * bs.length + 1)).map fun j => if j ≤ 2 * bs.length then refS bs j else []).getD bs.length [] = _
  rw [range_getD, if_pos (by omega), if_pos (by omega)]
  unfold refS
  rw [show min bs.length (2 * bs.length - bs.length) = bs.length by omega, List.take_length]

/-- The places of the letter R, from k on. -/
def refsL : List UInt8 → Nat → List Int
  | [], _ => []
  | c :: l, k => (if c = lR then [(k : Int)] else []) ++ refsL l (k + 1)
theorem refsL_append (a b : List UInt8) (k : Nat) : refsL (a ++ b) k = refsL a k ++ refsL b (k + a.length) := by
  induction a generalizing k with
  | nil => rfl
  | cons c t ih =>
    show _ ++ refsL (t ++ b) (k + 1) = (_ ++ refsL t (k + 1)) ++ _
    rw [ih (k + 1), List.append_assoc]
    congr 3
    simp only [List.length_cons]
    omega
theorem refsL_snoc (a : List UInt8) (c : UInt8) (k : Nat) : refsL (a ++ [c]) k = refsL a k ++ if c = lR then [((k + a.length : Nat) : Int)] else [] := by
  rw [refsL_append]
  congr 1
  show _ ++ refsL [] _ = _
  rw [show refsL [] (k + a.length + 1) = [] from rfl, List.append_nil]

end Go.Proofs.YtpmfbhoochogoaaDoor
