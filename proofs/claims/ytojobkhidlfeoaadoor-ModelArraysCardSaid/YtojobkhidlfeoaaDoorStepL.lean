/- What a step says, plain: by what is popped and pushed. -/
import Derived.Test.YtojobkhidlfeoaaDoorVerL
namespace Go.Proofs.YtojobkhidlfeoaaDoor

def outL (x : Ins) (t : List UInt8) : Except Int (List UInt8) := if 12 < t.length ∨ x.op = 33 ∧ t ≠ [] then .error 108 else .ok t
def tailL (x : Ins) (s pop push : List UInt8) : Except Int (List UInt8) :=
 if s.length < pop.length then .error 108 else if s.drop (s.length - pop.length) ≠ pop then .error 102 else outL x (s.take (s.length - pop.length) ++ push)
theorem beh_some {p : Prg} {m : Meth} {x : Ins} {s pop push : List UInt8} (h5 : x.op ≠ 5) (h6 : x.op ≠ 6) (h7 : x.op ≠ 7) (he : effL p m x = some (pop, push)) : behL p m x s = tailL x s pop push := by
 unfold behL tailL
 rw [if_neg h5, if_neg h6, if_neg h7, he]
 rfl
theorem drop_len {s : List UInt8} {k : Nat} (h : k ≤ s.length) : (s.drop (s.length - k)).length = k := by rw [List.length_drop]; omega
theorem tail_own {x : Ins} {s push : List UInt8} {k : Nat} (h : k ≤ s.length) : tailL x s (s.drop (s.length - k)) push = outL x (s.take (s.length - k) ++ push) := by
 unfold tailL
 rw [drop_len h, if_neg (by omega), if_neg (by simp)]
theorem beh_dup {p : Prg} {m : Meth} {x : Ins} {s : List UInt8} (hx : x.op = 5) (h : 1 ≤ s.length) : behL p m x s = tailL x s (s.drop (s.length - 1)) (s.drop (s.length - 1) ++ s.drop (s.length - 1)) := by
 rw [tail_own h, ← List.append_assoc, List.take_append_drop]
 unfold behL
 rw [if_pos hx, if_neg (by omega)]
 rfl
theorem beh_pop {p : Prg} {m : Meth} {x : Ins} {s : List UInt8} (hx : x.op = 6) (h : 1 ≤ s.length) : behL p m x s = tailL x s (s.drop (s.length - 1)) [] := by
 rw [tail_own h, List.append_nil]
 unfold behL
 rw [if_neg (by omega), if_pos hx, if_neg (by omega)]
 rfl
theorem beh_swap {p : Prg} {m : Meth} {x : Ins} {s : List UInt8} (hx : x.op = 7) (h : 2 ≤ s.length) : behL p m x s = tailL x s (s.drop (s.length - 2)) ((s.drop (s.length - 2)).drop 1 ++ (s.drop (s.length - 2)).take 1) := by
 rw [tail_own h]
 unfold behL
 rw [if_neg (by omega), if_neg (by omega), if_pos hx, if_neg (by omega)]
 have e1 : (s.drop (s.length - 2)).drop 1 = s.drop (s.length - 1) := by rw [List.drop_drop]; congr 1; omega
 have e2 : (s.drop (s.length - 2)).take 1 = (s.take (s.length - 1)).drop (s.length - 2) := by
  rw [List.drop_take, show s.length - 1 - (s.length - 2) = 1 by omega]
 rw [e1, e2, ← List.append_assoc]
 rfl
theorem beh_low {p : Prg} {m : Meth} {x : Ins} {s : List UInt8} (h : (x.op = 5 ∨ x.op = 6) ∧ s.length < 1 ∨ x.op = 7 ∧ s.length < 2) : behL p m x s = .error 108 := by
 unfold behL
 rcases h with ⟨h | h, h1⟩ | ⟨h, h1⟩
 ·rw [if_pos h, if_pos h1]
 ·rw [if_neg (by omega), if_pos h, if_pos h1]
 ·rw [if_neg (by omega), if_neg (by omega), if_pos h, if_pos h1]

theorem eff_none {p : Prg} {m : Meth} {x : Ins} (hop : 1 ≤ x.op ∧ x.op ≤ 35) (h : effL p m x = none) : x.op = 5 ∨ x.op = 6 ∨ x.op = 7 := by
 revert h
 unfold effL
 have hcs : x.op = 1 ∨ x.op = 2 ∨ x.op = 3 ∨ x.op = 4 ∨ x.op = 5 ∨ x.op = 6 ∨ x.op = 7 ∨ (8 ≤ x.op ∧ x.op ≤ 20 ∧ x.op ≠ 18) ∨ x.op = 18 ∨ x.op = 21 ∨ x.op = 22 ∨ x.op = 23 ∨ x.op = 24 ∨ x.op = 25 ∨ x.op = 26 ∨ x.op = 27 ∨ x.op = 28 ∨ x.op = 29 ∨ x.op = 30 ∨ x.op = 31 ∨ x.op = 32 ∨ x.op = 33 ∨ x.op = 34 ∨ x.op = 35 := by omega
 rcases hcs with h | h | h | h | h | h | h | h | h | h | h | h | h | h | h | h | h | h | h | h | h | h | h | h
 all_goals first | omega | (rw [if_pos h]; intro h2; cases h2) | (simp only [h]; simp; done) | (simp only [h]; by_cases h5 : 0 ≤ x.a ∧ x.a < (p.ms.length : Int) <;> simp [h5])
theorem eff_some {p : Prg} {m : Meth} {x : Ins} {r : List UInt8 × List UInt8} (h : effL p m x = some r) : x.op ≠ 5 ∧ x.op ≠ 6 ∧ x.op ≠ 7 := by
 refine ⟨?_, ?_, ?_⟩
 all_goals
  intro hx
  unfold effL at h
  rw [hx] at h
  simp at h

theorem atB_len (s : List UInt8) (i : Int) : (atB s i).length ≤ 1 := by unfold atB; split <;> simp
theorem fieldL_len (cs : List ByteArray) (a b : Int) : (fieldL cs a b).length ≤ 1 := by unfold fieldL; split; exact atB_len _ _; simp

/-- Of a program that may be: sizes. -/
theorem Prg.Ok.sizes {p : Prg} (h : p.Ok) (j : Nat) : (p.ms.getD j default).params.size + (p.ms.getD j default).locals.size ≤ 12 ∧ (p.ms.getD j default).ret.size ≤ 1 := by
 by_cases hj : j < p.ms.length
 ·have h1 := h.meth j hj
  generalize p.ms.getD j default = m at h1
  unfold headCode at h1
  split at h1
  ·cases h1
  ·split at h1
   ·cases h1
   ·rename_i h2 h3
    have h4 : retOk m.ret := Decidable.byContradiction fun h => h3 (.inr (.inr (.inl h)))
    refine ⟨by omega, ?_⟩
    rw [size_list]
    rcases h4 with h | h | h <;> rw [h] <;> simp
 ·rw [List.getD_eq_getElem?_getD, List.getElem?_eq_none (by omega)]
  exact ⟨by decide, by decide⟩
theorem Prg.Ok.code1 {p : Prg} (h : p.Ok) (j : Nat) (hj : j < p.ms.length) : 1 ≤ (p.ms.getD j default).code.length ∧ (p.ms.getD j default).code.length ≤ 120 := by
 have h1 := h.meth j hj
 generalize p.ms.getD j default = m at h1
 unfold headCode at h1
 split at h1
 ·cases h1
 ·omega
theorem Prg.Ok.op {p : Prg} (h : p.Ok) (j : Nat) (hj : j < p.ms.length) (q : Nat) (hq : q < (p.ms.getD j default).code.length) : 1 ≤ ((p.ms.getD j default).code.getD q default).op ∧ ((p.ms.getD j default).code.getD q default).op ≤ 35 := by
 have h1 := h.ins j hj q hq
 unfold insCode at h1
 split at h1
 ·cases h1
 ·omega
theorem ite_inv {α : Type} {c : Prop} [Decidable c] {a b r : α} {P : Prop} (h1 : a = r → P) (h2 : b = r → P) : (if c then a else b) = r → P := by
 split
 ·exact h1
 ·exact h2
theorem eff_sizes {p : Prg} (h : p.Ok) {k : Nat} {x : Ins} {a b : List UInt8} (he : effL p (p.ms.getD k default) x = some (a, b)) : a.length ≤ 12 ∧ b.length ≤ 12 := by
 have h1 := h.sizes k
 rw [size_list, size_list, size_list] at h1
 have h2 := h.sizes x.a.toNat
 rw [size_list, size_list, size_list] at h2
 have h3 := atB_len (kindsL (p.ms.getD k default)) x.a
 have h4 := fieldL_len p.cs x.a x.b
 have h5 := atB_len [lI, lR] x.a
 revert he
 unfold effL
 generalize p.ms.getD x.a.toNat default = m2 at h2 ⊢
 generalize p.ms.getD k default = m at h1 h3 ⊢
 repeat' (refine ite_inv ?_ ?_)
 all_goals
  intro he
  first
   | (cases he; done)
   | (simp only [Option.some.injEq, Prod.mk.injEq] at he
      obtain ⟨rfl, rfl⟩ := he
      simp only [List.length_cons, List.length_nil, List.length_append, kindsL] at *
      omega)
end Go.Proofs.YtojobkhidlfeoaaDoor
