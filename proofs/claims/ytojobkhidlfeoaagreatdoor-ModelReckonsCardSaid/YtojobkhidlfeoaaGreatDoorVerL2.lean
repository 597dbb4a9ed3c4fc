/- The look at a method, plain: its rounds end; what holds in its midst. The look at a method, plain: so many rounds are enough; what the look answers. The look at a method, plain: what holds when it is done. -/
import Derived.Test.YtojobkhidlfeoaaGreatDoorVerL
/-! The look at a method, plain: its rounds end; what holds in its midst. -/
namespace Go.Proofs.YtojobkhidlfeoaaGreatDoor

theorem pick_le (s : Lk) (n : Nat) : s.pick n ≤ n := by
  unfold Lk.pick
  cases h : (List.range n).find? (fun i => s.seen.getD i false && !s.done.getD i false) with
  | none => simp
  | some i =>
    have := List.mem_of_find?_eq_some h
    rw [List.mem_range] at this
    simp; omega
theorem pick_spec (s : Lk) (n : Nat) (h : s.pick n < n) : s.seen.getD (s.pick n) false = true ∧ s.done.getD (s.pick n) false = false ∧ ∀ j, j < s.pick n → (s.seen.getD j false && !s.done.getD j false) = false := by
  unfold Lk.pick at h ⊢
  cases hf : (List.range n).find? (fun i => s.seen.getD i false && !s.done.getD i false) with
  | none => rw [hf] at h; simp at h
  | some i =>
    have h1 := List.find?_some hf
    rw [Bool.and_eq_true] at h1
    simp only [Option.getD_some]
    refine ⟨h1.1, by simpa using h1.2, fun j hj => ?_⟩
    rw [List.find?_range_eq_some] at hf
    have := hf.2.2 j hj
    cases hb : (s.seen.getD j false && !s.done.getD j false) with
    | false => rfl
    | true => rw [hb] at this; simp at this
theorem pick_end (s : Lk) (n : Nat) (h : s.pick n = n) (j : Nat) (hj : j < n) : (s.seen.getD j false && !s.done.getD j false) = false := by
  unfold Lk.pick at h
  cases hf : (List.range n).find? (fun i => s.seen.getD i false && !s.done.getD i false) with
  | none =>
    rw [List.find?_eq_none] at hf
    have := hf j (List.mem_range.2 hj)
    simpa using this
  | some i =>
    have := List.mem_of_find?_eq_some hf
    rw [List.mem_range] at this
    rw [hf] at h
    simp at h
    omega
/-- How many are done. -/
def Lk.cnt (s : Lk) : Nat := s.done.count true
theorem count_set_true (l : List Bool) (i : Nat) (hi : i < l.length) (h : l.getD i false = false) : (l.set i true).count true = l.count true + 1 := by
  induction l generalizing i with
  | nil => simp at hi
  | cons a t ih =>
    cases i with
    | zero =>
      have h1 : a = false := by simpa using h
      subst h1
      simp
    | succ i =>
      have := ih i (by simpa using hi) (by simpa using h)
      simp only [List.set_cons_succ, List.count_cons]
      omega
theorem to_keep {n : Nat} {s s' : Lk} {k : Int} {t : List UInt8} (h : Lk.to n s k t = .ok s') : s'.done = s.done ∧ s'.most = s.most ∧ s'.seen.length = s.seen.length ∧ s'.stk.length = s.stk.length := by
  unfold Lk.to at h
  split at h
  · cases h
  · split at h
    · cases h; simp
    · split at h
      · cases h
      · cases h; simp
theorem tos_keep {n : Nat} {t : List UInt8} : ∀ {l : List Int} {s s' : Lk}, l.foldlM (fun s k => Lk.to n s k t) s = .ok s' → s'.done = s.done ∧ s'.most = s.most ∧ s'.seen.length = s.seen.length ∧ s'.stk.length = s.stk.length
  | [], s, s', h => by cases h; simp
  | k :: l, s, s', h => by
    rw [List.foldlM_cons] at h
    cases h1 : Lk.to n s k t with
    | error e => rw [h1] at h; cases h
    | ok s1 =>
      rw [h1] at h
      have h2 := to_keep h1
      have h3 := tos_keep (show l.foldlM (fun s k => Lk.to n s k t) s1 = .ok s' from h)
      exact ⟨h3.1.trans h2.1, h3.2.1.trans h2.2.1, h3.2.2.1.trans h2.2.2.1, h3.2.2.2.trans h2.2.2.2⟩

end Go.Proofs.YtojobkhidlfeoaaGreatDoor

/-! The look at a method, plain: so many rounds are enough; what the look answers. -/
namespace Go.Proofs.YtojobkhidlfeoaaGreatDoor

/-- Sizes are right, stacks are low. -/
structure Lk.Ok (n : Nat) (s : Lk) : Prop where
  seen : s.seen.length = n
  stk : s.stk.length = n
  done : s.done.length = n
  low : ∀ i, (s.stk.getD i []).length ≤ 12
  most : s.most ≤ 12

theorem behL_low {p : Prg} {m : Meth} {x : Ins} {s t : List UInt8} (h : behL p m x s = .ok t) : t.length ≤ 12 := by
  have out : ∀ u : List UInt8, (if 12 < u.length ∨ x.op = 33 ∧ u ≠ [] then (.error 108 : Except Int (List UInt8)) else .ok u) = .ok t → t.length ≤ 12 := by
    intro u hu
    split at hu
    · cases hu
    · rename_i h2
      cases hu
      rw [not_or] at h2
      omega
  unfold behL at h
  split at h
  · split at h
    · cases h
    · exact out _ h
  · split at h
    · split at h
      · cases h
      · exact out _ h
    · split at h
      · split at h
        · cases h
        · exact out _ h
      · split at h
        · split at h
          · cases h
          · split at h
            · cases h
            · exact out _ h
        · exact out _ h

theorem Lk.Ok.start (n : Nat) : (Lk.init n).Ok n := by
  refine ⟨by simp [Lk.init], by simp [Lk.init], by simp [Lk.init], fun i => ?_, by simp [Lk.init]⟩
  show ((List.replicate n ([] : List UInt8)).getD i []).length ≤ 12
  rw [List.getD_eq_getElem?_getD, List.getElem?_replicate]
  split <;> simp
theorem Lk.Ok.to {n : Nat} {s s' : Lk} {k : Int} {t : List UInt8} (h : s.Ok n) (ht : t.length ≤ 12) (e : Lk.to n s k t = .ok s') : s'.Ok n := by
  unfold Lk.to at e
  split at e
  · cases e
  · split at e
    · cases e
      refine ⟨by simp [h.seen], by simp [h.stk], h.done, fun i => ?_, h.most⟩
      show ((s.stk.set k.toNat t).getD i []).length ≤ 12
      rw [List.getD_eq_getElem?_getD, List.getElem?_set]
      split
      · split <;> simp [ht]
      · have := h.low i
        rwa [List.getD_eq_getElem?_getD] at this
    · split at e
      · cases e
      · cases e; exact h
theorem Lk.Ok.tos {n : Nat} {t : List UInt8} (ht : t.length ≤ 12) : ∀ {l : List Int} {s s' : Lk}, s.Ok n → l.foldlM (fun s k => Lk.to n s k t) s = .ok s' → s'.Ok n
  | [], _, _, h, e => by cases e; exact h
  | k :: l, s, s', h, e => by
    rw [List.foldlM_cons] at e
    cases h1 : Lk.to n s k t with
    | error e' => rw [h1] at e; cases e
    | ok s1 =>
      rw [h1] at e
      exact Lk.Ok.tos ht (h.to ht h1) (show l.foldlM (fun s k => Lk.to n s k t) s1 = .ok s' from e)
/-- A place is taken up. -/
def Lk.take (s : Lk) (pc : Nat) (t : List UInt8) : Lk := { s with done := s.done.set pc true, most := max s.most (max (s.stk.getD pc []).length t.length) }
theorem Lk.Ok.take {n : Nat} {s : Lk} (h : s.Ok n) (pc : Nat) {t : List UInt8} (ht : t.length ≤ 12) : (s.take pc t).Ok n := by
  have := h.low pc
  have := h.most
  exact ⟨h.seen, h.stk, by show (s.done.set pc true).length = n; simp [h.done], h.low, by show max s.most (max (s.stk.getD pc []).length t.length) ≤ 12; omega⟩
theorem step_ok {p : Prg} {m : Meth} {s s' : Lk} (h : s.Ok m.code.length) (hp : s.pick m.code.length < m.code.length) (e : s.step p m = .ok s') : s'.Ok m.code.length ∧ s'.cnt = s.cnt + 1 := by
  unfold Lk.step at e
  simp only at e
  cases h1 : behL p m (m.code.getD (s.pick m.code.length) default) (s.stk.getD (s.pick m.code.length) []) with
  | error e1 => rw [h1] at e; cases e
  | ok t =>
    rw [h1] at e
    simp only at e
    cases h2 : (nextL m.code (s.pick m.code.length)).foldlM (fun s k => Lk.to m.code.length s k t) (s.take (s.pick m.code.length) t) with
    | error e2 =>
      have h3 := h2
      unfold Lk.take at h3
      rw [h3] at e; cases e
    | ok s2 =>
      have h3 := h2
      unfold Lk.take at h3
      rw [h3] at e
      cases e
      have ht := behL_low h1
      refine ⟨Lk.Ok.tos ht (h.take _ ht) h2, ?_⟩
      have h4 := (tos_keep h2).1
      unfold Lk.cnt
      rw [h4]
      exact count_set_true _ _ (by rw [h.done]; exact hp) (pick_spec _ _ hp).2.1
theorem cnt_le {n : Nat} {s : Lk} (h : s.Ok n) : s.cnt ≤ n := by
  have := List.count_le_length (a := true) (l := s.done)
  rw [h.done] at this
  exact this
theorem cnt_lt {n : Nat} {s : Lk} (h : s.Ok n) (hp : s.pick n < n) : s.cnt < n := by
  have h1 := count_set_true s.done (s.pick n) (by rw [h.done]; exact hp) (pick_spec s n hp).2.1
  have h2 := List.count_le_length (a := true) (l := s.done.set (s.pick n) true)
  rw [List.length_set, h.done] at h2
  unfold Lk.cnt
  omega
theorem run_err {p : Prg} {m : Meth} {i : Nat} {e : Int × Nat} (h : Lk.run p m i = .error e) : ∀ k, Lk.run p m (i + k) = .error e
  | 0 => h
  | k + 1 => by
    show (match Lk.run p m (i + k) with | .error e => _ | .ok s => _) = _
    rw [run_err h k]
theorem run_stay {p : Prg} {m : Meth} {i : Nat} {s : Lk} (h : Lk.run p m i = .ok s) (hp : s.pick m.code.length = m.code.length) : ∀ k, Lk.run p m (i + k) = .ok s
  | 0 => h
  | k + 1 => by
    show (match Lk.run p m (i + k) with | .error e => Except.error e | .ok s => if s.pick m.code.length = m.code.length then .ok s else s.step p m) = _
    rw [run_stay h hp k]
    simp only [hp, if_true]
/-- In the midst of the look. -/
structure Lk.Mid (p : Prg) (m : Meth) (i : Nat) (s : Lk) : Prop where
  run : Lk.run p m i = .ok s
  ok : s.Ok m.code.length
  cnt : s.cnt = i
theorem Lk.Mid.start (p : Prg) (m : Meth) : Lk.Mid p m 0 (Lk.init m.code.length) := ⟨rfl, Lk.Ok.start _, by simp [Lk.cnt, Lk.init, List.count_replicate]⟩
theorem Lk.Mid.le {p : Prg} {m : Meth} {i : Nat} {s : Lk} (h : Lk.Mid p m i s) : i ≤ m.code.length := h.cnt ▸ cnt_le h.ok
theorem Lk.Mid.fin {p : Prg} {m : Meth} {i : Nat} {s : Lk} (h : Lk.Mid p m i s) (hp : s.pick m.code.length = m.code.length) : lookM p m = .ok s := by
  have h1 := run_stay h.run hp (m.code.length + 1 - i)
  have h2 := h.le
  rwa [show i + (m.code.length + 1 - i) = m.code.length + 1 by omega] at h1
theorem Lk.Mid.go {p : Prg} {m : Meth} {i : Nat} {s : Lk} (h : Lk.Mid p m i s) (hp : s.pick m.code.length < m.code.length) : Lk.run p m (i + 1) = s.step p m := by
  show (match Lk.run p m i with | .error e => Except.error e | .ok s => if s.pick m.code.length = m.code.length then .ok s else s.step p m) = _
  rw [h.run]
  simp only [if_neg (Nat.ne_of_lt hp)]
theorem Lk.Mid.next {p : Prg} {m : Meth} {i : Nat} {s s' : Lk} (h : Lk.Mid p m i s) (hp : s.pick m.code.length < m.code.length) (e : s.step p m = .ok s') : Lk.Mid p m (i + 1) s' :=
  ⟨(h.go hp).trans e, (step_ok h.ok hp e).1, by rw [(step_ok h.ok hp e).2, h.cnt]⟩
theorem Lk.Mid.bad {p : Prg} {m : Meth} {i : Nat} {s : Lk} {e : Int × Nat} (h : Lk.Mid p m i s) (hp : s.pick m.code.length < m.code.length) (he : s.step p m = .error e) : lookM p m = .error e := by
  have h1 := run_err ((h.go hp).trans he) (m.code.length - i)
  have h2 := h.le
  rwa [show i + 1 + (m.code.length - i) = m.code.length + 1 by omega] at h1

end Go.Proofs.YtojobkhidlfeoaaGreatDoor

/-! The look at a method, plain: what holds when it is done. -/
namespace Go.Proofs.YtojobkhidlfeoaaGreatDoor

/-- What was seen stays as it was. -/
structure Lk.Le (s s' : Lk) : Prop where
  seen : ∀ i, s.seen.getD i false = true → s'.seen.getD i false = true
  stk : ∀ i, s.seen.getD i false = true → s'.stk.getD i [] = s.stk.getD i []
theorem Lk.Le.refl (s : Lk) : s.Le s := ⟨fun _ h => h, fun _ _ => rfl⟩
theorem Lk.Le.trans {a b c : Lk} (h : a.Le b) (h2 : b.Le c) : a.Le c := ⟨fun i hi => h2.seen i (h.seen i hi), fun i hi => (h2.stk i (h.seen i hi)).trans (h.stk i hi)⟩

theorem getD_set_b {α : Type} (l : List α) (k i : Nat) (v d : α) : (l.set k v).getD i d = if k = i ∧ k < l.length then v else l.getD i d := by
  rw [List.getD_eq_getElem?_getD, List.getElem?_set]
  by_cases h : k = i
  · subst h
    by_cases h2 : k < l.length
    · simp [h2]
    · simp [h2]
  · simp [h]

theorem to_le {n : Nat} {s s' : Lk} {k : Int} {t : List UInt8} (h : s.Ok n) (hn : 0 < n) (e : Lk.to n s k t = .ok s') : s.Le s' ∧ k < n ∧ s'.seen.getD k.toNat false = true ∧ s'.stk.getD k.toNat [] = t := by
  unfold Lk.to at e
  split at e
  · cases e
  · rename_i hk
    have hkn : k.toNat < n := by omega
    split at e
    · rename_i hs
      cases e
      refine ⟨⟨fun i hi => ?_, fun i hi => ?_⟩, by omega, ?_, ?_⟩
      · show (s.seen.set k.toNat true).getD i false = true
        rw [getD_set_b]
        split
        · rfl
        · exact hi
      · show (s.stk.set k.toNat t).getD i [] = _
        rw [getD_set_b, if_neg]
        rintro ⟨rfl, _⟩
        rw [hs] at hi
        cases hi
      · show (s.seen.set k.toNat true).getD k.toNat false = true
        rw [getD_set_b, if_pos ⟨rfl, by rw [h.seen]; exact hkn⟩]
      · show (s.stk.set k.toNat t).getD k.toNat [] = t
        rw [getD_set_b, if_pos ⟨rfl, by rw [h.stk]; exact hkn⟩]
    · rename_i hs
      split at e
      · cases e
      · rename_i ht
        cases e
        refine ⟨Lk.Le.refl _, by omega, by simpa using hs, Decidable.byContradiction ht⟩
theorem tos_le {n : Nat} {t : List UInt8} (hn : 0 < n) (ht : t.length ≤ 12) : ∀ {l : List Int} {s s' : Lk}, s.Ok n → l.foldlM (fun s k => Lk.to n s k t) s = .ok s' → s.Le s' ∧ ∀ k ∈ l, k < n ∧ s'.seen.getD k.toNat false = true ∧ s'.stk.getD k.toNat [] = t
  | [], _, _, _, e => by cases e; exact ⟨Lk.Le.refl _, fun _ h => by cases h⟩
  | k :: l, s, s', h, e => by
    rw [List.foldlM_cons] at e
    cases h1 : Lk.to n s k t with
    | error e' => rw [h1] at e; cases e
    | ok s1 =>
      rw [h1] at e
      have h2 := to_le h hn h1
      have h3 := tos_le hn ht (h.to ht h1) (show l.foldlM (fun s k => Lk.to n s k t) s1 = .ok s' from e)
      refine ⟨h2.1.trans h3.1, fun j hj => ?_⟩
      rcases List.mem_cons.1 hj with rfl | hj
      · exact ⟨h2.2.1, h3.1.seen _ h2.2.2.1, (h3.1.stk _ h2.2.2.1).trans h2.2.2.2⟩
      · exact h3.2 j hj

/-- What holds in the midst of the look. -/
structure Lk.Good (p : Prg) (m : Meth) (s : Lk) : Prop where
  ds : ∀ i, s.done.getD i false = true → s.seen.getD i false = true
  zero : s.seen.getD 0 false = true
  empty : s.stk.getD 0 [] = []
  all : ∀ i, s.done.getD i false = true → ∃ t, behL p m (m.code.getD i default) (s.stk.getD i []) = .ok t ∧ (s.stk.getD i []).length ≤ s.most ∧ t.length ≤ s.most ∧ ∀ k ∈ nextL m.code i, k < m.code.length ∧ s.seen.getD k.toNat false = true ∧ s.stk.getD k.toNat [] = t
theorem Lk.Good.start (p : Prg) (m : Meth) (hn : 0 < m.code.length) : (Lk.init m.code.length).Good p m := by
  have h1 : ∀ i, (List.replicate m.code.length false).getD i false = false := fun i => by
    rw [List.getD_eq_getElem?_getD, List.getElem?_replicate]
    split <;> rfl
  refine ⟨fun i hi => ?_, ?_, ?_, fun i hi => ?_⟩
  · rw [show (Lk.init m.code.length).done = List.replicate m.code.length false from rfl, h1] at hi
    cases hi
  · show ((List.replicate m.code.length false).set 0 true).getD 0 false = true
    rw [getD_set_b, if_pos ⟨rfl, by simpa using hn⟩]
  · show (List.replicate m.code.length ([] : List UInt8)).getD 0 [] = []
    rw [List.getD_eq_getElem?_getD, List.getElem?_replicate, if_pos hn]
    rfl
  · rw [show (Lk.init m.code.length).done = List.replicate m.code.length false from rfl, h1] at hi
    cases hi
theorem Lk.Good.next {p : Prg} {m : Meth} {s s' : Lk} (hn : 0 < m.code.length) (g : s.Good p m) (h : s.Ok m.code.length) (hp : s.pick m.code.length < m.code.length) (e : s.step p m = .ok s') : s'.Good p m := by
  unfold Lk.step at e
  simp only at e
  cases h1 : behL p m (m.code.getD (s.pick m.code.length) default) (s.stk.getD (s.pick m.code.length) []) with
  | error e1 => rw [h1] at e; cases e
  | ok t =>
    rw [h1] at e
    simp only at e
    cases h2 : (nextL m.code (s.pick m.code.length)).foldlM (fun s k => Lk.to m.code.length s k t) (s.take (s.pick m.code.length) t) with
    | error e2 =>
      have h3 := h2
      unfold Lk.take at h3
      rw [h3] at e; cases e
    | ok s2 =>
      have h3 := h2
      unfold Lk.take at h3
      rw [h3] at e
      cases e
      have ht := behL_low h1
      have hk := tos_keep h2
      have hl := tos_le hn ht (h.take _ ht) h2
      have hs := (pick_spec _ _ hp).1
      have hle : s.Le s' := ⟨fun i hi => hl.1.seen i hi, fun i hi => hl.1.stk i hi⟩
      have hm : s'.most = max s.most (max (s.stk.getD (s.pick m.code.length) []).length t.length) := hk.2.1
      have hd : ∀ i, s'.done.getD i false = true → i = s.pick m.code.length ∨ s.done.getD i false = true := fun i hi => by
        rw [hk.1] at hi
        have h4 : (s.take (s.pick m.code.length) t).done = s.done.set (s.pick m.code.length) true := rfl
        rw [h4, getD_set_b] at hi
        split at hi
        · rename_i h5; exact .inl h5.1.symm
        · exact .inr hi
      refine ⟨fun i hi => ?_, hle.seen 0 g.zero, (hle.stk 0 g.zero).trans g.empty, fun i hi => ?_⟩
      · rcases hd i hi with rfl | h4
        · exact hle.seen _ hs
        · exact hle.seen i (g.ds i h4)
      · rcases hd i hi with rfl | h4
        · rw [hle.stk _ hs]
          exact ⟨t, h1, by omega, by omega, hl.2⟩
        · obtain ⟨u, h5, h6, h7, h8⟩ := g.all i h4
          rw [hle.stk i (g.ds i h4)]
          exact ⟨u, h5, by omega, by omega, fun k hk2 => ⟨(h8 k hk2).1, hle.seen _ (h8 k hk2).2.1, (hle.stk _ (h8 k hk2).2.1).trans (h8 k hk2).2.2⟩⟩
theorem run_good {p : Prg} {m : Meth} (hn : 0 < m.code.length) : ∀ (i : Nat) {s : Lk}, Lk.run p m i = .ok s → s.Good p m ∧ s.Ok m.code.length ∧ (s.pick m.code.length = m.code.length ∨ s.cnt = i)
  | 0, s, e => by cases e; exact ⟨Lk.Good.start p m hn, Lk.Ok.start _, .inr (Lk.Mid.start p m).cnt⟩
  | i + 1, s, e => by
    have e2 : (match Lk.run p m i with | .error e => Except.error e | .ok s => if s.pick m.code.length = m.code.length then .ok s else s.step p m) = .ok s := e
    cases h1 : Lk.run p m i with
    | error e' => rw [h1] at e2; cases e2
    | ok s0 =>
      rw [h1] at e2
      simp only at e2
      have h2 := run_good hn i h1
      by_cases hp : s0.pick m.code.length = m.code.length
      · rw [if_pos hp] at e2
        cases e2
        exact ⟨h2.1, h2.2.1, .inl hp⟩
      · rw [if_neg hp] at e2
        have hlt : s0.pick m.code.length < m.code.length := by have := pick_le s0 m.code.length; omega
        have h3 := step_ok h2.2.1 hlt e2
        refine ⟨h2.1.next hn h2.2.1 hlt e2, h3.1, .inr ?_⟩
        rcases h2.2.2 with h4 | h4
        · omega
        · omega
/-- What the look says when it is done. -/
theorem look_good {p : Prg} {m : Meth} {s : Lk} (hn : 0 < m.code.length) (e : lookM p m = .ok s) : s.Good p m ∧ s.Ok m.code.length ∧ ∀ i, s.seen.getD i false = true → s.done.getD i false = true := by
  have h := run_good hn (m.code.length + 1) e
  refine ⟨h.1, h.2.1, fun i hi => ?_⟩
  have hp : s.pick m.code.length = m.code.length := by
    rcases h.2.2 with h1 | h1
    · exact h1
    · have := cnt_le h.2.1
      omega
  have hlt : i < m.code.length := by
    rcases Nat.lt_or_ge i m.code.length with h1 | h1
    · exact h1
    · rw [List.getD_eq_getElem?_getD, List.getElem?_eq_none (by rw [h.2.1.seen]; exact h1)] at hi
      cases hi
  have h2 := pick_end s _ hp i hlt
  rw [hi] at h2
  simpa using h2

end Go.Proofs.YtojobkhidlfeoaaGreatDoor
