/- The look at a method, plain: what a step says; programs that look alike. -/
import Derived.Test.YtjndigfmemdmjaaDoorVerL4
namespace Go.Proofs.YtjndigfmemdmjaaDoor

theorem out_inv {x : Ins} {t u : List UInt8} (h : (if 12 < u.length ∨ x.op = 33 ∧ u ≠ [] then (.error 108 : Except Int (List UInt8)) else .ok u) = .ok t) : t = u ∧ (x.op = 33 → t = []) := by
  split at h
  · cases h
  · rename_i h2
    cases h
    exact ⟨rfl, fun hx => Decidable.byContradiction fun hne => h2 (.inr ⟨hx, hne⟩)⟩
theorem behL_dup {p : Prg} {m : Meth} {x : Ins} {s t : List UInt8} (h : behL p m x s = .ok t) (hx : x.op = 5) : 1 ≤ s.length ∧ t = s ++ s.drop (s.length - 1) := by
  unfold behL at h
  rw [if_pos hx] at h
  split at h
  · cases h
  · rename_i h1
    exact ⟨by omega, (out_inv h).1⟩
theorem behL_pop {p : Prg} {m : Meth} {x : Ins} {s t : List UInt8} (h : behL p m x s = .ok t) (hx : x.op = 6) : 1 ≤ s.length ∧ t = s.take (s.length - 1) := by
  unfold behL at h
  rw [if_neg (by omega), if_pos hx] at h
  split at h
  · cases h
  · rename_i h1
    exact ⟨by omega, (out_inv h).1⟩
theorem behL_swap {p : Prg} {m : Meth} {x : Ins} {s t : List UInt8} (h : behL p m x s = .ok t) (hx : x.op = 7) : 2 ≤ s.length ∧ t = s.take (s.length - 2) ++ s.drop (s.length - 1) ++ (s.take (s.length - 1)).drop (s.length - 2) := by
  unfold behL at h
  rw [if_neg (by omega), if_neg (by omega), if_pos hx] at h
  split at h
  · cases h
  · rename_i h1
    exact ⟨by omega, (out_inv h).1⟩
theorem behL_eff {p : Prg} {m : Meth} {x : Ins} {s t pop push : List UInt8} (h : behL p m x s = .ok t) (h5 : x.op ≠ 5) (h6 : x.op ≠ 6) (h7 : x.op ≠ 7) (he : effL p m x = some (pop, push)) :
    pop.length ≤ s.length ∧ s.drop (s.length - pop.length) = pop ∧ t = s.take (s.length - pop.length) ++ push := by
  unfold behL at h
  rw [if_neg h5, if_neg h6, if_neg h7, he] at h
  simp only at h
  split at h
  · cases h
  · rename_i h1
    split at h
    · cases h
    · rename_i h2
      exact ⟨by omega, Decidable.byContradiction h2, (out_inv h).1⟩
theorem behL_ret {p : Prg} {m : Meth} {x : Ins} {s t : List UInt8} (h : behL p m x s = .ok t) (hx : x.op = 33) : t = [] := by
  have he : effL p m x = some (m.ret.toList, []) := by
    unfold effL
    simp [hx]
  unfold behL at h
  rw [if_neg (by omega), if_neg (by omega), if_neg (by omega), he] at h
  simp only at h
  split at h
  · cases h
  · split at h
    · cases h
    · exact (out_inv h).2 hx
theorem nextL_nil {xs : List Ins} {pc : Nat} (hp : pc < xs.length) (h : nextL xs pc = []) : (xs.getD pc default).op = 33 := by
  unfold nextL at h
  rw [if_pos ⟨by omega, by omega⟩] at h
  simp only [Int.toNat_natCast] at h
  split at h
  · assumption
  · split at h
    · cases h
    · split at h
      · split at h
        · cases h
        · split at h
          · cases h
          · cases h
      · cases h

/-- Programs whose classes and whose methods' heads are the same. -/
structure Prg.Heads (p q : Prg) : Prop where
  cs : p.cs = q.cs
  len : p.ms.length = q.ms.length
  params : ∀ i, (p.ms.getD i default).params = (q.ms.getD i default).params
  locals : ∀ i, (p.ms.getD i default).locals = (q.ms.getD i default).locals
  ret : ∀ i, (p.ms.getD i default).ret = (q.ms.getD i default).ret
theorem Prg.Heads.eff {p q : Prg} (h : p.Heads q) (m : Meth) (x : Ins) : effL p m x = effL q m x := by
  unfold effL
  rw [h.cs, h.len, h.params, h.ret]
theorem Prg.Heads.beh {p q : Prg} (h : p.Heads q) (m : Meth) (x : Ins) (s : List UInt8) : behL p m x s = behL q m x s := by
  unfold behL
  rw [h.eff]
theorem Prg.Heads.run {p q : Prg} (h : p.Heads q) (m : Meth) : ∀ i, Lk.run p m i = Lk.run q m i
  | 0 => rfl
  | i + 1 => by
    have hs : ∀ s : Lk, s.step p m = s.step q m := fun s => by
      unfold Lk.step
      simp only [h.beh]
    show (match Lk.run p m i with | .error e => Except.error e | .ok s => if s.pick m.code.length = m.code.length then .ok s else s.step p m) = (match Lk.run q m i with | .error e => Except.error e | .ok s => if s.pick m.code.length = m.code.length then .ok s else s.step q m)
    rw [h.run m i]
    simp only [hs]
/-- Another method's code does not matter. -/
theorem Prg.Heads.look {p q : Prg} (h : p.Heads q) (m : Meth) : lookM p m = lookM q m := h.run m _
/-- A fault of the look has its place in the method. -/
theorem run_place {p : Prg} {m : Meth} : ∀ (i : Nat) {e : Int × Nat}, Lk.run p m i = .error e → e.2 < m.code.length
  | 0, _, h => by cases h
  | i + 1, e, h => by
    have h2 : (match Lk.run p m i with | .error e => Except.error e | .ok s => if s.pick m.code.length = m.code.length then .ok s else s.step p m) = .error e := h
    cases h1 : Lk.run p m i with
    | error e' =>
      rw [h1] at h2
      cases h2
      exact run_place i h1
    | ok s =>
      rw [h1] at h2
      simp only at h2
      split at h2
      · cases h2
      · rename_i hp
        have hlt : s.pick m.code.length < m.code.length := by have := pick_le s m.code.length; omega
        unfold Lk.step at h2
        simp only at h2
        split at h2
        · cases h2; exact hlt
        · split at h2
          · cases h2; exact hlt
          · cases h2
theorem look_place {p : Prg} {m : Meth} {e : Int × Nat} (h : lookM p m = .error e) : e.2 < m.code.length := run_place _ h

end Go.Proofs.YtjndigfmemdmjaaDoor
