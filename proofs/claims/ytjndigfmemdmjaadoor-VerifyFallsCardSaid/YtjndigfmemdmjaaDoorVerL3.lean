/- The look at a method, plain: so many rounds are enough; what the look answers. -/
import Derived.Test.YtjndigfmemdmjaaDoorVerL2
namespace Go.Proofs.YtjndigfmemdmjaaDoor

/-- Sizes are right, stacks are low. -/
structure Lk.Ok (n : Nat) (s : Lk) : Prop where
  seen : s.seen.length = n
  stk : s.stk.length = n
  done : s.done.length = n
  low : ∀ i, (s.stk.getD i []).length ≤ 12
  most : s.most ≤ 12

theorem behL_low {p : Prg} {m : Meth} {x : Ins} {s t : List UInt8} (h : behL p m x s = .ok t) : t.length ≤ 12 := by
  have out : ∀ u : List UInt8, (if 12 < u.length ∨ x.op = 33 ∧ u ≠ [] then (.error 108 : Except Int (List UInt8)) else .ok u) = .ok t → t.length ≤ 12 := by
    intro u hu
    split at hu
    · cases hu
    · rename_i h2
      cases hu
      rw [not_or] at h2
      omega
  unfold behL at h
  split at h
  · split at h
    · cases h
    · exact out _ h
  · split at h
    · split at h
      · cases h
      · exact out _ h
    · split at h
      · split at h
        · cases h
        · exact out _ h
      · split at h
        · split at h
          · cases h
          · split at h
            · cases h
            · exact out _ h
        · exact out _ h

theorem Lk.Ok.start (n : Nat) : (Lk.init n).Ok n := by
  refine ⟨by simp [Lk.init], by simp [Lk.init], by simp [Lk.init], fun i => ?_, by simp [Lk.init]⟩
  show ((List.replicate n ([] : List UInt8)).getD i []).length ≤ 12
  rw [List.getD_eq_getElem?_getD, List.getElem?_replicate]
  split <;> simp
theorem Lk.Ok.to {n : Nat} {s s' : Lk} {k : Int} {t : List UInt8} (h : s.Ok n) (ht : t.length ≤ 12) (e : Lk.to n s k t = .ok s') : s'.Ok n := by
  unfold Lk.to at e
  split at e
  · cases e
  · split at e
    · cases e
      refine ⟨by simp [h.seen], by simp [h.stk], h.done, fun i => ?_, h.most⟩
      show ((s.stk.set k.toNat t).getD i []).length ≤ 12
      rw [List.getD_eq_getElem?_getD, List.getElem?_set]
      split
      · split <;> simp [ht]
      · have := h.low i
        rwa [List.getD_eq_getElem?_getD] at this
    · split at e
      · cases e
      · cases e; exact h
theorem Lk.Ok.tos {n : Nat} {t : List UInt8} (ht : t.length ≤ 12) : ∀ {l : List Int} {s s' : Lk}, s.Ok n → l.foldlM (fun s k => Lk.to n s k t) s = .ok s' → s'.Ok n
  | [], _, _, h, e => by cases e; exact h
  | k :: l, s, s', h, e => by
    rw [List.foldlM_cons] at e
    cases h1 : Lk.to n s k t with
    | error e' => rw [h1] at e; cases e
    | ok s1 =>
      rw [h1] at e
      exact Lk.Ok.tos ht (h.to ht h1) (show l.foldlM (fun s k => Lk.to n s k t) s1 = .ok s' from e)
/-- A place is taken up. -/
def Lk.take (s : Lk) (pc : Nat) (t : List UInt8) : Lk := { s with done := s.done.set pc true, most := max s.most (max (s.stk.getD pc []).length t.length) }
theorem Lk.Ok.take {n : Nat} {s : Lk} (h : s.Ok n) (pc : Nat) {t : List UInt8} (ht : t.length ≤ 12) : (s.take pc t).Ok n := by
  have := h.low pc
  have := h.most
  exact ⟨h.seen, h.stk, by show (s.done.set pc true).length = n; simp [h.done], h.low, by show max s.most (max (s.stk.getD pc []).length t.length) ≤ 12; omega⟩
theorem step_ok {p : Prg} {m : Meth} {s s' : Lk} (h : s.Ok m.code.length) (hp : s.pick m.code.length < m.code.length) (e : s.step p m = .ok s') : s'.Ok m.code.length ∧ s'.cnt = s.cnt + 1 := by
  unfold Lk.step at e
  simp only at e
  cases h1 : behL p m (m.code.getD (s.pick m.code.length) default) (s.stk.getD (s.pick m.code.length) []) with
  | error e1 => rw [h1] at e; cases e
  | ok t =>
    rw [h1] at e
    simp only at e
    cases h2 : (nextL m.code (s.pick m.code.length)).foldlM (fun s k => Lk.to m.code.length s k t) (s.take (s.pick m.code.length) t) with
    | error e2 =>
      have h3 := h2
      unfold Lk.take at h3
      rw [h3] at e; cases e
    | ok s2 =>
      have h3 := h2
      unfold Lk.take at h3
      rw [h3] at e
      cases e
      have ht := behL_low h1
      refine ⟨Lk.Ok.tos ht (h.take _ ht) h2, ?_⟩
      have h4 := (tos_keep h2).1
      unfold Lk.cnt
      rw [h4]
      exact count_set_true _ _ (by rw [h.done]; exact hp) (pick_spec _ _ hp).2.1
theorem cnt_le {n : Nat} {s : Lk} (h : s.Ok n) : s.cnt ≤ n := by
  have := List.count_le_length (a := true) (l := s.done)
  rw [h.done] at this
  exact this
theorem cnt_lt {n : Nat} {s : Lk} (h : s.Ok n) (hp : s.pick n < n) : s.cnt < n := by
  have h1 := count_set_true s.done (s.pick n) (by rw [h.done]; exact hp) (pick_spec s n hp).2.1
  have h2 := List.count_le_length (a := true) (l := s.done.set (s.pick n) true)
  rw [List.length_set, h.done] at h2
  unfold Lk.cnt
  omega
theorem run_err {p : Prg} {m : Meth} {i : Nat} {e : Int × Nat} (h : Lk.run p m i = .error e) : ∀ k, Lk.run p m (i + k) = .error e
  | 0 => h
  | k + 1 => by
    show (match Lk.run p m (i + k) with | .error e => _ | .ok s => _) = _
    rw [run_err h k]
theorem run_stay {p : Prg} {m : Meth} {i : Nat} {s : Lk} (h : Lk.run p m i = .ok s) (hp : s.pick m.code.length = m.code.length) : ∀ k, Lk.run p m (i + k) = .ok s
  | 0 => h
  | k + 1 => by
    show (match Lk.run p m (i + k) with | .error e => Except.error e | .ok s => if s.pick m.code.length = m.code.length then .ok s else s.step p m) = _
    rw [run_stay h hp k]
    simp only [hp, if_true]
/-- In the midst of the look. -/
structure Lk.Mid (p : Prg) (m : Meth) (i : Nat) (s : Lk) : Prop where
  run : Lk.run p m i = .ok s
  ok : s.Ok m.code.length
  cnt : s.cnt = i
theorem Lk.Mid.start (p : Prg) (m : Meth) : Lk.Mid p m 0 (Lk.init m.code.length) := ⟨rfl, Lk.Ok.start _, by simp [Lk.cnt, Lk.init, List.count_replicate]⟩
theorem Lk.Mid.le {p : Prg} {m : Meth} {i : Nat} {s : Lk} (h : Lk.Mid p m i s) : i ≤ m.code.length := h.cnt ▸ cnt_le h.ok
theorem Lk.Mid.fin {p : Prg} {m : Meth} {i : Nat} {s : Lk} (h : Lk.Mid p m i s) (hp : s.pick m.code.length = m.code.length) : lookM p m = .ok s := by
  have h1 := run_stay h.run hp (m.code.length + 1 - i)
  have h2 := h.le
  rwa [show i + (m.code.length + 1 - i) = m.code.length + 1 by omega] at h1
theorem Lk.Mid.go {p : Prg} {m : Meth} {i : Nat} {s : Lk} (h : Lk.Mid p m i s) (hp : s.pick m.code.length < m.code.length) : Lk.run p m (i + 1) = s.step p m := by
  show (match Lk.run p m i with | .error e => Except.error e | .ok s => if s.pick m.code.length = m.code.length then .ok s else s.step p m) = _
  rw [h.run]
  simp only [if_neg (Nat.ne_of_lt hp)]
theorem Lk.Mid.next {p : Prg} {m : Meth} {i : Nat} {s s' : Lk} (h : Lk.Mid p m i s) (hp : s.pick m.code.length < m.code.length) (e : s.step p m = .ok s') : Lk.Mid p m (i + 1) s' :=
  ⟨(h.go hp).trans e, (step_ok h.ok hp e).1, by rw [(step_ok h.ok hp e).2, h.cnt]⟩
theorem Lk.Mid.bad {p : Prg} {m : Meth} {i : Nat} {s : Lk} {e : Int × Nat} (h : Lk.Mid p m i s) (hp : s.pick m.code.length < m.code.length) (he : s.step p m = .error e) : lookM p m = .error e := by
  have h1 := run_err ((h.go hp).trans he) (m.code.length - i)
  have h2 := h.le
  rwa [show i + 1 + (m.code.length - i) = m.code.length + 1 by omega] at h1

end Go.Proofs.YtjndigfmemdmjaaDoor
