/- The look at a method, plain: its rounds end; what holds in its midst. The look at a method, plain: so many rounds are enough; what the look answers. The look at a method, plain: what holds when it is done. The look at a method, plain: what a step says; programs that look alike. The look at a method, plain: a straight row of instructions. The look at a method, plain: two ways that meet. The look at a method, plain: so many are pushed and put out. -/
import Derived.Test.YtojobkhidlfeoaaDoorVerL
/-! The look at a method, plain: its rounds end; what holds in its midst. The look at a method, plain: so many rounds are enough; what the look answers. The look at a method, plain: what holds when it is done. -/
/-! The look at a method, plain: its rounds end; what holds in its midst. -/
namespace Go.Proofs.YtojobkhidlfeoaaDoor

theorem pick_le (s : Lk) (n : Nat) : s.pick n ≤ n := by
 unfold Lk.pick
 cases h : (List.range n).find? (fun i => s.seen.getD i false && !s.done.getD i false) with
 | none => simp
 | some i =>
  have := List.mem_of_find?_eq_some h
  rw [List.mem_range] at this
  simp; omega
theorem pick_spec (s : Lk) (n : Nat) (h : s.pick n < n) : s.seen.getD (s.pick n) false = true ∧ s.done.getD (s.pick n) false = false ∧ ∀ j, j < s.pick n → (s.seen.getD j false && !s.done.getD j false) = false := by
 unfold Lk.pick at h ⊢
 cases hf : (List.range n).find? (fun i => s.seen.getD i false && !s.done.getD i false) with
 | none => rw [hf] at h; simp at h
 | some i =>
  have h1 := List.find?_some hf
  rw [Bool.and_eq_true] at h1
  simp only [Option.getD_some]
  refine ⟨h1.1, by simpa using h1.2, fun j hj => ?_⟩
  rw [List.find?_range_eq_some] at hf
  have := hf.2.2 j hj
  cases hb : (s.seen.getD j false && !s.done.getD j false) with
  | false => rfl
  | true => rw [hb] at this; simp at this
theorem pick_end (s : Lk) (n : Nat) (h : s.pick n = n) (j : Nat) (hj : j < n) : (s.seen.getD j false && !s.done.getD j false) = false := by
 unfold Lk.pick at h
 cases hf : (List.range n).find? (fun i => s.seen.getD i false && !s.done.getD i false) with
 | none =>
  rw [List.find?_eq_none] at hf
  have := hf j (List.mem_range.2 hj)
  simpa using this
 | some i =>
  have := List.mem_of_find?_eq_some hf
  rw [List.mem_range] at this
  rw [hf] at h
  simp at h
  omega
/-- How many are done. -/
def Lk.cnt (s : Lk) : Nat := s.done.count true
theorem count_set_true (l : List Bool) (i : Nat) (hi : i < l.length) (h : l.getD i false = false) : (l.set i true).count true = l.count true + 1 := by
 induction l generalizing i with
 | nil => simp at hi
 | cons a t ih =>
  cases i with
  | zero =>
   have h1 : a = false := by simpa using h
   subst h1
   simp
  | succ i =>
   have := ih i (by simpa using hi) (by simpa using h)
   simp only [List.set_cons_succ, List.count_cons]
   omega
theorem to_keep {n : Nat} {s s' : Lk} {k : Int} {t : List UInt8} (h : Lk.to n s k t = .ok s') : s'.done = s.done ∧ s'.most = s.most ∧ s'.seen.length = s.seen.length ∧ s'.stk.length = s.stk.length := by
 unfold Lk.to at h
 split at h
 ·cases h
 ·split at h
  ·cases h; simp
  ·split at h
   ·cases h
   ·cases h; simp
theorem tos_keep {n : Nat} {t : List UInt8} : ∀ {l : List Int} {s s' : Lk}, l.foldlM (fun s k => Lk.to n s k t) s = .ok s' → s'.done = s.done ∧ s'.most = s.most ∧ s'.seen.length = s.seen.length ∧ s'.stk.length = s.stk.length
 | [], s, s', h => by cases h; simp
 | k :: l, s, s', h => by
  rw [List.foldlM_cons] at h
  cases h1 : Lk.to n s k t with
  | error e => rw [h1] at h; cases h
  | ok s1 =>
   rw [h1] at h
   have h2 := to_keep h1
   have h3 := tos_keep (show l.foldlM (fun s k => Lk.to n s k t) s1 = .ok s' from h)
   exact ⟨h3.1.trans h2.1, h3.2.1.trans h2.2.1, h3.2.2.1.trans h2.2.2.1, h3.2.2.2.trans h2.2.2.2⟩

end Go.Proofs.YtojobkhidlfeoaaDoor

/-! The look at a method, plain: so many rounds are enough; what the look answers. -/
namespace Go.Proofs.YtojobkhidlfeoaaDoor

/-- Sizes are right, stacks are low. -/
structure Lk.Ok (n : Nat) (s : Lk) : Prop where
 seen : s.seen.length = n
 stk : s.stk.length = n
 done : s.done.length = n
 low : ∀ i, (s.stk.getD i []).length ≤ 12
 most : s.most ≤ 12

theorem behL_low {p : Prg} {m : Meth} {x : Ins} {s t : List UInt8} (h : behL p m x s = .ok t) : t.length ≤ 12 := by
 have out : ∀ u : List UInt8, (if 12 < u.length ∨ x.op = 33 ∧ u ≠ [] then (.error 108 : Except Int (List UInt8)) else .ok u) = .ok t → t.length ≤ 12 := by
  intro u hu
  split at hu
  ·cases hu
  ·rename_i h2
   cases hu
   rw [not_or] at h2
   omega
 unfold behL at h
 split at h
 ·split at h
  ·cases h
  ·exact out _ h
 ·split at h
  ·split at h
   ·cases h
   ·exact out _ h
  ·split at h
   ·split at h
    ·cases h
    ·exact out _ h
   ·split at h
    ·split at h
     ·cases h
     ·split at h
      ·cases h
      ·exact out _ h
    ·exact out _ h

theorem Lk.Ok.start (n : Nat) : (Lk.init n).Ok n := by
 refine ⟨by simp [Lk.init], by simp [Lk.init], by simp [Lk.init], fun i => ?_, by simp [Lk.init]⟩
 show ((List.replicate n ([] : List UInt8)).getD i []).length ≤ 12
 rw [List.getD_eq_getElem?_getD, List.getElem?_replicate]
 split <;> simp
theorem Lk.Ok.to {n : Nat} {s s' : Lk} {k : Int} {t : List UInt8} (h : s.Ok n) (ht : t.length ≤ 12) (e : Lk.to n s k t = .ok s') : s'.Ok n := by
 unfold Lk.to at e
 split at e
 ·cases e
 ·split at e
  ·cases e
   refine ⟨by simp [h.seen], by simp [h.stk], h.done, fun i => ?_, h.most⟩
   show ((s.stk.set k.toNat t).getD i []).length ≤ 12
   rw [List.getD_eq_getElem?_getD, List.getElem?_set]
   split
   ·split <;> simp [ht]
   ·have := h.low i
    rwa [List.getD_eq_getElem?_getD] at this
  ·split at e
   ·cases e
   ·cases e; exact h
theorem Lk.Ok.tos {n : Nat} {t : List UInt8} (ht : t.length ≤ 12) : ∀ {l : List Int} {s s' : Lk}, s.Ok n → l.foldlM (fun s k => Lk.to n s k t) s = .ok s' → s'.Ok n
 | [], _, _, h, e => by cases e; exact h
 | k :: l, s, s', h, e => by
  rw [List.foldlM_cons] at e
  cases h1 : Lk.to n s k t with
  | error e' => rw [h1] at e; cases e
  | ok s1 =>
   rw [h1] at e
   exact Lk.Ok.tos ht (h.to ht h1) (show l.foldlM (fun s k => Lk.to n s k t) s1 = .ok s' from e)
/-- A place is taken up. -/
def Lk.take (s : Lk) (pc : Nat) (t : List UInt8) : Lk := { s with done := s.done.set pc true, most := max s.most (max (s.stk.getD pc []).length t.length) }
theorem Lk.Ok.take {n : Nat} {s : Lk} (h : s.Ok n) (pc : Nat) {t : List UInt8} (ht : t.length ≤ 12) : (s.take pc t).Ok n := by
 have := h.low pc
 have := h.most
 exact ⟨h.seen, h.stk, by show (s.done.set pc true).length = n; simp [h.done], h.low, by show max s.most (max (s.stk.getD pc []).length t.length) ≤ 12; omega⟩
theorem step_ok {p : Prg} {m : Meth} {s s' : Lk} (h : s.Ok m.code.length) (hp : s.pick m.code.length < m.code.length) (e : s.step p m = .ok s') : s'.Ok m.code.length ∧ s'.cnt = s.cnt + 1 := by
 unfold Lk.step at e
 simp only at e
 cases h1 : behL p m (m.code.getD (s.pick m.code.length) default) (s.stk.getD (s.pick m.code.length) []) with
 | error e1 => rw [h1] at e; cases e
 | ok t =>
  rw [h1] at e
  simp only at e
  cases h2 : (nextL m.code (s.pick m.code.length)).foldlM (fun s k => Lk.to m.code.length s k t) (s.take (s.pick m.code.length) t) with
  | error e2 =>
   have h3 := h2
   unfold Lk.take at h3
   rw [h3] at e; cases e
  | ok s2 =>
   have h3 := h2
   unfold Lk.take at h3
   rw [h3] at e
   cases e
   have ht := behL_low h1
   refine ⟨Lk.Ok.tos ht (h.take _ ht) h2, ?_⟩
   have h4 := (tos_keep h2).1
   unfold Lk.cnt
   rw [h4]
   exact count_set_true _ _ (by rw [h.done]; exact hp) (pick_spec _ _ hp).2.1
theorem cnt_le {n : Nat} {s : Lk} (h : s.Ok n) : s.cnt ≤ n := by
 have := List.count_le_length (a := true) (l := s.done)
 rw [h.done] at this
 exact this
theorem cnt_lt {n : Nat} {s : Lk} (h : s.Ok n) (hp : s.pick n < n) : s.cnt < n := by
 have h1 := count_set_true s.done (s.pick n) (by rw [h.done]; exact hp) (pick_spec s n hp).2.1
 have h2 := List.count_le_length (a := true) (l := s.done.set (s.pick n) true)
 rw [List.length_set, h.done] at h2
 unfold Lk.cnt
 omega
theorem run_err {p : Prg} {m : Meth} {i : Nat} {e : Int × Nat} (h : Lk.run p m i = .error e) : ∀ k, Lk.run p m (i + k) = .error e
 | 0 => h
 | k + 1 => by
  show (match Lk.run p m (i + k) with | .error e => _ | .ok s => _) = _
  rw [run_err h k]
theorem run_stay {p : Prg} {m : Meth} {i : Nat} {s : Lk} (h : Lk.run p m i = .ok s) (hp : s.pick m.code.length = m.code.length) : ∀ k, Lk.run p m (i + k) = .ok s
 | 0 => h
 | k + 1 => by
  show (match Lk.run p m (i + k) with | .error e => Except.error e | .ok s => if s.pick m.code.length = m.code.length then .ok s else s.step p m) = _
  rw [run_stay h hp k]
  simp only [hp, if_true]
/-- In the midst of the look. -/
structure Lk.Mid (p : Prg) (m : Meth) (i : Nat) (s : Lk) : Prop where
 run : Lk.run p m i = .ok s
 ok : s.Ok m.code.length
 cnt : s.cnt = i
theorem Lk.Mid.start (p : Prg) (m : Meth) : Lk.Mid p m 0 (Lk.init m.code.length) := ⟨rfl, Lk.Ok.start _, by simp [Lk.cnt, Lk.init, List.count_replicate]⟩
theorem Lk.Mid.le {p : Prg} {m : Meth} {i : Nat} {s : Lk} (h : Lk.Mid p m i s) : i ≤ m.code.length := h.cnt ▸ cnt_le h.ok
theorem Lk.Mid.fin {p : Prg} {m : Meth} {i : Nat} {s : Lk} (h : Lk.Mid p m i s) (hp : s.pick m.code.length = m.code.length) : lookM p m = .ok s := by
 have h1 := run_stay h.run hp (m.code.length + 1 - i)
 have h2 := h.le
 rwa [show i + (m.code.length + 1 - i) = m.code.length + 1 by omega] at h1
theorem Lk.Mid.go {p : Prg} {m : Meth} {i : Nat} {s : Lk} (h : Lk.Mid p m i s) (hp : s.pick m.code.length < m.code.length) : Lk.run p m (i + 1) = s.step p m := by
 show (match Lk.run p m i with | .error e => Except.error e | .ok s => if s.pick m.code.length = m.code.length then .ok s else s.step p m) = _
 rw [h.run]
 simp only [if_neg (Nat.ne_of_lt hp)]
theorem Lk.Mid.next {p : Prg} {m : Meth} {i : Nat} {s s' : Lk} (h : Lk.Mid p m i s) (hp : s.pick m.code.length < m.code.length) (e : s.step p m = .ok s') : Lk.Mid p m (i + 1) s' :=
 ⟨(h.go hp).trans e, (step_ok h.ok hp e).1, by rw [(step_ok h.ok hp e).2, h.cnt]⟩
theorem Lk.Mid.bad {p : Prg} {m : Meth} {i : Nat} {s : Lk} {e : Int × Nat} (h : Lk.Mid p m i s) (hp : s.pick m.code.length < m.code.length) (he : s.step p m = .error e) : lookM p m = .error e := by
 have h1 := run_err ((h.go hp).trans he) (m.code.length - i)
 have h2 := h.le
 rwa [show i + 1 + (m.code.length - i) = m.code.length + 1 by omega] at h1

end Go.Proofs.YtojobkhidlfeoaaDoor

/-! The look at a method, plain: what holds when it is done. -/
namespace Go.Proofs.YtojobkhidlfeoaaDoor

/-- What was seen stays as it was. -/
structure Lk.Le (s s' : Lk) : Prop where
 seen : ∀ i, s.seen.getD i false = true → s'.seen.getD i false = true
 stk : ∀ i, s.seen.getD i false = true → s'.stk.getD i [] = s.stk.getD i []
theorem Lk.Le.refl (s : Lk) : s.Le s := ⟨fun _ h => h, fun _ _ => rfl⟩
theorem Lk.Le.trans {a b c : Lk} (h : a.Le b) (h2 : b.Le c) : a.Le c := ⟨fun i hi => h2.seen i (h.seen i hi), fun i hi => (h2.stk i (h.seen i hi)).trans (h.stk i hi)⟩

theorem getD_set_b {α : Type} (l : List α) (k i : Nat) (v d : α) : (l.set k v).getD i d = if k = i ∧ k < l.length then v else l.getD i d := by
 rw [List.getD_eq_getElem?_getD, List.getElem?_set]
 by_cases h : k = i
 ·subst h
  by_cases h2 : k < l.length
  ·simp [h2]
  ·simp [h2]
 ·simp [h]

theorem to_le {n : Nat} {s s' : Lk} {k : Int} {t : List UInt8} (h : s.Ok n) (hn : 0 < n) (e : Lk.to n s k t = .ok s') : s.Le s' ∧ k < n ∧ s'.seen.getD k.toNat false = true ∧ s'.stk.getD k.toNat [] = t := by
 unfold Lk.to at e
 split at e
 ·cases e
 ·rename_i hk
  have hkn : k.toNat < n := by omega
  split at e
  ·rename_i hs
   cases e
   refine ⟨⟨fun i hi => ?_, fun i hi => ?_⟩, by omega, ?_, ?_⟩
   ·show (s.seen.set k.toNat true).getD i false = true
    rw [getD_set_b]
    split
    ·rfl
    ·exact hi
   ·show (s.stk.set k.toNat t).getD i [] = _
    rw [getD_set_b, if_neg]
    rintro ⟨rfl, _⟩
    rw [hs] at hi
    cases hi
   ·show (s.seen.set k.toNat true).getD k.toNat false = true
    rw [getD_set_b, if_pos ⟨rfl, by rw [h.seen]; exact hkn⟩]
   ·show (s.stk.set k.toNat t).getD k.toNat [] = t
    rw [getD_set_b, if_pos ⟨rfl, by rw [h.stk]; exact hkn⟩]
  ·rename_i hs
   split at e
   ·cases e
   ·rename_i ht
    cases e
    refine ⟨Lk.Le.refl _, by omega, by simpa using hs, Decidable.byContradiction ht⟩
theorem tos_le {n : Nat} {t : List UInt8} (hn : 0 < n) (ht : t.length ≤ 12) : ∀ {l : List Int} {s s' : Lk}, s.Ok n → l.foldlM (fun s k => Lk.to n s k t) s = .ok s' → s.Le s' ∧ ∀ k ∈ l, k < n ∧ s'.seen.getD k.toNat false = true ∧ s'.stk.getD k.toNat [] = t
 | [], _, _, _, e => by cases e; exact ⟨Lk.Le.refl _, fun _ h => by cases h⟩
 | k :: l, s, s', h, e => by
  rw [List.foldlM_cons] at e
  cases h1 : Lk.to n s k t with
  | error e' => rw [h1] at e; cases e
  | ok s1 =>
   rw [h1] at e
   have h2 := to_le h hn h1
   have h3 := tos_le hn ht (h.to ht h1) (show l.foldlM (fun s k => Lk.to n s k t) s1 = .ok s' from e)
   refine ⟨h2.1.trans h3.1, fun j hj => ?_⟩
   rcases List.mem_cons.1 hj with rfl | hj
   ·exact ⟨h2.2.1, h3.1.seen _ h2.2.2.1, (h3.1.stk _ h2.2.2.1).trans h2.2.2.2⟩
   ·exact h3.2 j hj

/-- What holds in the midst of the look. -/
structure Lk.Good (p : Prg) (m : Meth) (s : Lk) : Prop where
 ds : ∀ i, s.done.getD i false = true → s.seen.getD i false = true
 zero : s.seen.getD 0 false = true
 empty : s.stk.getD 0 [] = []
 all : ∀ i, s.done.getD i false = true → ∃ t, behL p m (m.code.getD i default) (s.stk.getD i []) = .ok t ∧ (s.stk.getD i []).length ≤ s.most ∧ t.length ≤ s.most ∧ ∀ k ∈ nextL m.code i, k < m.code.length ∧ s.seen.getD k.toNat false = true ∧ s.stk.getD k.toNat [] = t
theorem Lk.Good.start (p : Prg) (m : Meth) (hn : 0 < m.code.length) : (Lk.init m.code.length).Good p m := by
 have h1 : ∀ i, (List.replicate m.code.length false).getD i false = false := fun i => by
  rw [List.getD_eq_getElem?_getD, List.getElem?_replicate]
  split <;> rfl
 refine ⟨fun i hi => ?_, ?_, ?_, fun i hi => ?_⟩
 ·rw [show (Lk.init m.code.length).done = List.replicate m.code.length false from rfl, h1] at hi
  cases hi
 ·show ((List.replicate m.code.length false).set 0 true).getD 0 false = true
  rw [getD_set_b, if_pos ⟨rfl, by simpa using hn⟩]
 ·show (List.replicate m.code.length ([] : List UInt8)).getD 0 [] = []
  rw [List.getD_eq_getElem?_getD, List.getElem?_replicate, if_pos hn]
  rfl
 ·rw [show (Lk.init m.code.length).done = List.replicate m.code.length false from rfl, h1] at hi
  cases hi
theorem Lk.Good.next {p : Prg} {m : Meth} {s s' : Lk} (hn : 0 < m.code.length) (g : s.Good p m) (h : s.Ok m.code.length) (hp : s.pick m.code.length < m.code.length) (e : s.step p m = .ok s') : s'.Good p m := by
 unfold Lk.step at e
 simp only at e
 cases h1 : behL p m (m.code.getD (s.pick m.code.length) default) (s.stk.getD (s.pick m.code.length) []) with
 | error e1 => rw [h1] at e; cases e
 | ok t =>
  rw [h1] at e
  simp only at e
  cases h2 : (nextL m.code (s.pick m.code.length)).foldlM (fun s k => Lk.to m.code.length s k t) (s.take (s.pick m.code.length) t) with
  | error e2 =>
   have h3 := h2
   unfold Lk.take at h3
   rw [h3] at e; cases e
  | ok s2 =>
   have h3 := h2
   unfold Lk.take at h3
   rw [h3] at e
   cases e
   have ht := behL_low h1
   have hk := tos_keep h2
   have hl := tos_le hn ht (h.take _ ht) h2
   have hs := (pick_spec _ _ hp).1
   have hle : s.Le s' := ⟨fun i hi => hl.1.seen i hi, fun i hi => hl.1.stk i hi⟩
   have hm : s'.most = max s.most (max (s.stk.getD (s.pick m.code.length) []).length t.length) := hk.2.1
   have hd : ∀ i, s'.done.getD i false = true → i = s.pick m.code.length ∨ s.done.getD i false = true := fun i hi => by
    rw [hk.1] at hi
    have h4 : (s.take (s.pick m.code.length) t).done = s.done.set (s.pick m.code.length) true := rfl
    rw [h4, getD_set_b] at hi
    split at hi
    ·rename_i h5; exact .inl h5.1.symm
    ·exact .inr hi
   refine ⟨fun i hi => ?_, hle.seen 0 g.zero, (hle.stk 0 g.zero).trans g.empty, fun i hi => ?_⟩
   ·rcases hd i hi with rfl | h4
    ·exact hle.seen _ hs
    ·exact hle.seen i (g.ds i h4)
   ·rcases hd i hi with rfl | h4
    ·rw [hle.stk _ hs]
     exact ⟨t, h1, by omega, by omega, hl.2⟩
    ·obtain ⟨u, h5, h6, h7, h8⟩ := g.all i h4
     rw [hle.stk i (g.ds i h4)]
     exact ⟨u, h5, by omega, by omega, fun k hk2 => ⟨(h8 k hk2).1, hle.seen _ (h8 k hk2).2.1, (hle.stk _ (h8 k hk2).2.1).trans (h8 k hk2).2.2⟩⟩
theorem run_good {p : Prg} {m : Meth} (hn : 0 < m.code.length) : ∀ (i : Nat) {s : Lk}, Lk.run p m i = .ok s → s.Good p m ∧ s.Ok m.code.length ∧ (s.pick m.code.length = m.code.length ∨ s.cnt = i)
 | 0, s, e => by cases e; exact ⟨Lk.Good.start p m hn, Lk.Ok.start _, .inr (Lk.Mid.start p m).cnt⟩
 | i + 1, s, e => by
  have e2 : (match Lk.run p m i with | .error e => Except.error e | .ok s => if s.pick m.code.length = m.code.length then .ok s else s.step p m) = .ok s := e
  cases h1 : Lk.run p m i with
  | error e' => rw [h1] at e2; cases e2
  | ok s0 =>
   rw [h1] at e2
   simp only at e2
   have h2 := run_good hn i h1
   by_cases hp : s0.pick m.code.length = m.code.length
   ·rw [if_pos hp] at e2
    cases e2
    exact ⟨h2.1, h2.2.1, .inl hp⟩
   ·rw [if_neg hp] at e2
    have hlt : s0.pick m.code.length < m.code.length := by have := pick_le s0 m.code.length; omega
    have h3 := step_ok h2.2.1 hlt e2
    refine ⟨h2.1.next hn h2.2.1 hlt e2, h3.1, .inr ?_⟩
    rcases h2.2.2 with h4 | h4
    ·omega
    ·omega
/-- What the look says when it is done. -/
theorem look_good {p : Prg} {m : Meth} {s : Lk} (hn : 0 < m.code.length) (e : lookM p m = .ok s) : s.Good p m ∧ s.Ok m.code.length ∧ ∀ i, s.seen.getD i false = true → s.done.getD i false = true := by
 have h := run_good hn (m.code.length + 1) e
 refine ⟨h.1, h.2.1, fun i hi => ?_⟩
 have hp : s.pick m.code.length = m.code.length := by
  rcases h.2.2 with h1 | h1
  ·exact h1
  ·have := cnt_le h.2.1
   omega
 have hlt : i < m.code.length := by
  rcases Nat.lt_or_ge i m.code.length with h1 | h1
  ·exact h1
  ·rw [List.getD_eq_getElem?_getD, List.getElem?_eq_none (by rw [h.2.1.seen]; exact h1)] at hi
   cases hi
 have h2 := pick_end s _ hp i hlt
 rw [hi] at h2
 simpa using h2

end Go.Proofs.YtojobkhidlfeoaaDoor

/-! The look at a method, plain: what a step says; programs that look alike. The look at a method, plain: a straight row of instructions. The look at a method, plain: two ways that meet. The look at a method, plain: so many are pushed and put out. -/
/-! The look at a method, plain: what a step says; programs that look alike. -/
namespace Go.Proofs.YtojobkhidlfeoaaDoor

theorem out_inv {x : Ins} {t u : List UInt8} (h : (if 12 < u.length ∨ x.op = 33 ∧ u ≠ [] then (.error 108 : Except Int (List UInt8)) else .ok u) = .ok t) : t = u ∧ (x.op = 33 → t = []) := by
 split at h
 ·cases h
 ·rename_i h2
  cases h
  exact ⟨rfl, fun hx => Decidable.byContradiction fun hne => h2 (.inr ⟨hx, hne⟩)⟩
theorem behL_dup {p : Prg} {m : Meth} {x : Ins} {s t : List UInt8} (h : behL p m x s = .ok t) (hx : x.op = 5) : 1 ≤ s.length ∧ t = s ++ s.drop (s.length - 1) := by
 unfold behL at h
 rw [if_pos hx] at h
 split at h
 ·cases h
 ·rename_i h1
  exact ⟨by omega, (out_inv h).1⟩
theorem behL_pop {p : Prg} {m : Meth} {x : Ins} {s t : List UInt8} (h : behL p m x s = .ok t) (hx : x.op = 6) : 1 ≤ s.length ∧ t = s.take (s.length - 1) := by
 unfold behL at h
 rw [if_neg (by omega), if_pos hx] at h
 split at h
 ·cases h
 ·rename_i h1
  exact ⟨by omega, (out_inv h).1⟩
theorem behL_swap {p : Prg} {m : Meth} {x : Ins} {s t : List UInt8} (h : behL p m x s = .ok t) (hx : x.op = 7) : 2 ≤ s.length ∧ t = s.take (s.length - 2) ++ s.drop (s.length - 1) ++ (s.take (s.length - 1)).drop (s.length - 2) := by
 unfold behL at h
 rw [if_neg (by omega), if_neg (by omega), if_pos hx] at h
 split at h
 ·cases h
 ·rename_i h1
  exact ⟨by omega, (out_inv h).1⟩
theorem behL_eff {p : Prg} {m : Meth} {x : Ins} {s t pop push : List UInt8} (h : behL p m x s = .ok t) (h5 : x.op ≠ 5) (h6 : x.op ≠ 6) (h7 : x.op ≠ 7) (he : effL p m x = some (pop, push)) :
  pop.length ≤ s.length ∧ s.drop (s.length - pop.length) = pop ∧ t = s.take (s.length - pop.length) ++ push := by
 unfold behL at h
 rw [if_neg h5, if_neg h6, if_neg h7, he] at h
 simp only at h
 split at h
 ·cases h
 ·rename_i h1
  split at h
  ·cases h
  ·rename_i h2
   exact ⟨by omega, Decidable.byContradiction h2, (out_inv h).1⟩
theorem behL_ret {p : Prg} {m : Meth} {x : Ins} {s t : List UInt8} (h : behL p m x s = .ok t) (hx : x.op = 33) : t = [] := by
 have he : effL p m x = some (m.ret.toList, []) := by
  unfold effL
  simp [hx]
 unfold behL at h
 rw [if_neg (by omega), if_neg (by omega), if_neg (by omega), he] at h
 simp only at h
 split at h
 ·cases h
 ·split at h
  ·cases h
  ·exact (out_inv h).2 hx
theorem nextL_nil {xs : List Ins} {pc : Nat} (hp : pc < xs.length) (h : nextL xs pc = []) : (xs.getD pc default).op = 33 := by
 unfold nextL at h
 rw [if_pos ⟨by omega, by omega⟩] at h
 simp only [Int.toNat_natCast] at h
 split at h
 ·assumption
 ·split at h
  ·cases h
  ·split at h
   ·split at h
    ·cases h
    ·split at h
     ·cases h
     ·cases h
   ·cases h

/-- Programs whose classes and whose methods' heads are the same. -/
structure Prg.Heads (p q : Prg) : Prop where
 cs : p.cs = q.cs
 len : p.ms.length = q.ms.length
 params : ∀ i, (p.ms.getD i default).params = (q.ms.getD i default).params
 locals : ∀ i, (p.ms.getD i default).locals = (q.ms.getD i default).locals
 ret : ∀ i, (p.ms.getD i default).ret = (q.ms.getD i default).ret
theorem Prg.Heads.eff {p q : Prg} (h : p.Heads q) (m : Meth) (x : Ins) : effL p m x = effL q m x := by
 unfold effL
 rw [h.cs, h.len, h.params, h.ret]
theorem Prg.Heads.beh {p q : Prg} (h : p.Heads q) (m : Meth) (x : Ins) (s : List UInt8) : behL p m x s = behL q m x s := by
 unfold behL
 rw [h.eff]
theorem Prg.Heads.run {p q : Prg} (h : p.Heads q) (m : Meth) : ∀ i, Lk.run p m i = Lk.run q m i
 | 0 => rfl
 | i + 1 => by
  have hs : ∀ s : Lk, s.step p m = s.step q m := fun s => by
   unfold Lk.step
   simp only [h.beh]
  show (match Lk.run p m i with | .error e => Except.error e | .ok s => if s.pick m.code.length = m.code.length then .ok s else s.step p m) = (match Lk.run q m i with | .error e => Except.error e | .ok s => if s.pick m.code.length = m.code.length then .ok s else s.step q m)
  rw [h.run m i]
  simp only [hs]
/-- Another method's code does not matter. -/
theorem Prg.Heads.look {p q : Prg} (h : p.Heads q) (m : Meth) : lookM p m = lookM q m := h.run m _
/-- A fault of the look has its place in the method. -/
theorem run_place {p : Prg} {m : Meth} : ∀ (i : Nat) {e : Int × Nat}, Lk.run p m i = .error e → e.2 < m.code.length
 | 0, _, h => by cases h
 | i + 1, e, h => by
  have h2 : (match Lk.run p m i with | .error e => Except.error e | .ok s => if s.pick m.code.length = m.code.length then .ok s else s.step p m) = .error e := h
  cases h1 : Lk.run p m i with
  | error e' =>
   rw [h1] at h2
   cases h2
   exact run_place i h1
  | ok s =>
   rw [h1] at h2
   simp only at h2
   split at h2
   ·cases h2
   ·rename_i hp
    have hlt : s.pick m.code.length < m.code.length := by have := pick_le s m.code.length; omega
    unfold Lk.step at h2
    simp only at h2
    split at h2
    ·cases h2; exact hlt
    ·split at h2
     ·cases h2; exact hlt
     ·cases h2
theorem look_place {p : Prg} {m : Meth} {e : Int × Nat} (h : lookM p m = .error e) : e.2 < m.code.length := run_place _ h

end Go.Proofs.YtojobkhidlfeoaaDoor

/-! The look at a method, plain: a straight row of instructions. The look at a method, plain: two ways that meet. The look at a method, plain: so many are pushed and put out. -/
/-! The look at a method, plain: a straight row of instructions. -/
namespace Go.Proofs.YtojobkhidlfeoaaDoor

theorem range_set {α : Type} (n k : Nat) (f : Nat → α) (v : α) : ((List.range n).map f).set k v = (List.range n).map fun j => if j = k then v else f j := by
 apply List.ext_getElem
 ·simp
 ·intro i h1 h2
  rw [List.getElem_set]
  simp only [List.getElem_map, List.getElem_range]
  by_cases h : k = i
  ·subst h; simp
  ·rw [if_neg h, if_neg (fun e => h e.symm)]
theorem range_getD {α : Type} (n k : Nat) (f : Nat → α) (d : α) : ((List.range n).map f).getD k d = if k < n then f k else d := by
 rw [List.getD_eq_getElem?_getD]
 by_cases h : k < n
 ·rw [if_pos h, List.getElem?_map, List.getElem?_range h]; rfl
 ·rw [if_neg h, List.getElem?_eq_none (by simp; omega)]; rfl

theorem pick_at {s : Lk} {n i : Nat} (hi : i < n) (hs : s.seen.getD i false = true) (hd : s.done.getD i false = false) (hl : ∀ j, j < i → (s.seen.getD j false && !s.done.getD j false) = false) : s.pick n = i := by
 have hii : (s.seen.getD i false && !s.done.getD i false) = true := by rw [hs, hd]; rfl
 rcases Nat.lt_or_ge (s.pick n) n with h | h
 ·have h1 := pick_spec s n h
  rcases Nat.lt_trichotomy (s.pick n) i with h2 | h2 | h2
  ·have := hl _ h2
   rw [h1.1, h1.2.1] at this
   cases this
  ·exact h2
  ·have := h1.2.2 i h2
   rw [hii] at this
   cases this
 ·have h1 := pick_le s n
  have := pick_end s n (by omega) i hi
  rw [hii] at this
  cases this
theorem pick_none {s : Lk} {n : Nat} (hl : ∀ j, j < n → (s.seen.getD j false && !s.done.getD j false) = false) : s.pick n = n := by
 rcases Nat.lt_or_ge (s.pick n) n with h | h
 ·have h1 := pick_spec s n h
  have := hl _ h
  rw [h1.1, h1.2.1] at this
  cases this
 ·have := pick_le s n
  omega

/-- The greatest height of so many steps. -/
def mostS (st : Nat → List UInt8) : Nat → Nat
 | 0 => 0
 | i + 1 => max (mostS st i) (max (st i).length (st (i + 1)).length)
/-- So many of a straight row are done; how far it was seen. -/
def strS (n : Nat) (st : Nat → List UInt8) (i f : Nat) : Lk := ⟨(List.range n).map fun j => decide (j ≤ f), (List.range n).map fun j => if j ≤ f then st j else [], (List.range n).map fun j => decide (j < i), mostS st i⟩
theorem strS_start {n : Nat} (st : Nat → List UInt8) (h0 : st 0 = []) : Lk.init n = strS n st 0 0 := by
 have h1 : ∀ {α : Type} (v : α), List.replicate n v = (List.range n).map fun _ => v := fun v => by
  rw [List.map_const', List.length_range]
 unfold Lk.init strS
 rw [h1, range_set, h1]
 congr 1
 ·apply List.map_congr_left
  intro j _
  by_cases hj : j = 0
  ·simp [hj]
  ·simp [hj]
 ·apply List.map_congr_left
  intro j _
  by_cases hj : j = 0
  ·simp [hj, h0]
  ·rw [if_neg (by omega)]
theorem strS_pick {n : Nat} (st : Nat → List UInt8) {i : Nat} (hi : i < n) : (strS n st i i).pick n = i := by
 refine pick_at hi ?_ ?_ (fun j hj => ?_)
 ·show ((List.range n).map fun j => decide (j ≤ i)).getD i false = true
  rw [range_getD, if_pos hi]; simp
 ·show ((List.range n).map fun j => decide (j < i)).getD i false = false
  rw [range_getD, if_pos hi]; simp
 ·have : (strS n st i i).done.getD j false = true := by
   show ((List.range n).map fun j => decide (j < i)).getD j false = true
   rw [range_getD, if_pos (by omega)]; simp [hj]
  rw [this, Bool.not_true, Bool.and_false]
theorem strS_stk {n : Nat} (st : Nat → List UInt8) {i : Nat} (hi : i < n) : (strS n st i i).stk.getD i [] = st i := by
 show ((List.range n).map fun j => if j ≤ i then st j else []).getD i [] = st i
 rw [range_getD, if_pos hi, if_pos (Nat.le_refl i)]
theorem strS_take {n : Nat} (st : Nat → List UInt8) {i : Nat} (hi : i < n) : (strS n st i i).take i (st (i + 1)) = strS n st (i + 1) i := by
 unfold Lk.take
 rw [strS_stk st hi]
 unfold strS
 simp only [range_set]
 congr 1
 apply List.map_congr_left
 intro j _
 by_cases hj : j = i
 ·rw [if_pos hj]; simp; omega
 ·rw [if_neg hj]
  exact decide_eq_decide.2 (by omega)
theorem strS_to {n : Nat} (st : Nat → List UInt8) {i : Nat} (hi : i + 1 < n) : Lk.to n (strS n st (i + 1) i) ((i : Int) + 1) (st (i + 1)) = .ok (strS n st (i + 1) (i + 1)) := by
 unfold Lk.to
 have ht : ((i : Int) + 1).toNat = i + 1 := by omega
 have hs : (strS n st (i + 1) i).seen.getD (i + 1) false = false := by
  show ((List.range n).map fun j => decide (j ≤ i)).getD (i + 1) false = false
  rw [range_getD, if_pos hi]; simp
 rw [if_neg (by omega), ht, if_pos hs]
 unfold strS
 simp only [range_set]
 congr 2
 ·apply List.map_congr_left
  intro j _
  by_cases hj : j = i + 1
  ·rw [if_pos hj]; simp; omega
  ·rw [if_neg hj]
   exact decide_eq_decide.2 (by omega)
 ·apply List.map_congr_left
  intro j _
  by_cases hj : j = i + 1
  ·rw [if_pos hj, if_pos (by omega), hj]
  ·rw [if_neg hj]
   by_cases h2 : j ≤ i
   ·rw [if_pos h2, if_pos (by omega)]
   ·rw [if_neg h2, if_neg (by omega)]

/-- A straight row: what it leads to, so far. -/
structure Row (p : Prg) (m : Meth) (st : Nat → List UInt8) (L : Nat) : Prop where
 len : L < m.code.length
 start : st 0 = []
 go : ∀ i, i < L → behL p m (m.code.getD i default) (st i) = .ok (st (i + 1))
 next : ∀ i : Nat, i < L → nextL m.code i = [(i : Int) + 1]
theorem Row.run {p : Prg} {m : Meth} {st : Nat → List UInt8} {L : Nat} (h : Row p m st L) : ∀ i, i ≤ L → Lk.run p m i = .ok (strS m.code.length st i i)
 | 0, _ => by
  show Except.ok (Lk.init m.code.length) = _
  rw [strS_start st h.start]
 | i + 1, hi => by
  have hl := h.len
  show (match Lk.run p m i with | .error e => Except.error e | .ok s => if s.pick m.code.length = m.code.length then .ok s else s.step p m) = _
  rw [h.run i (by omega)]
  simp only
  have hp := strS_pick st (show i < m.code.length by omega)
  rw [hp, if_neg (by omega)]
  unfold Lk.step
  simp only [hp]
  rw [strS_stk st (show i < m.code.length by omega), h.go i (by omega), h.next i (by omega)]
  have h2 := strS_take st (show i < m.code.length by omega)
  unfold Lk.take at h2
  rw [strS_stk st (show i < m.code.length by omega)] at h2
  simp only [h2, List.foldlM_cons, List.foldlM_nil, strS_to st (show i + 1 < m.code.length by omega)]
  rfl
theorem Row.mid {p : Prg} {m : Meth} {st : Nat → List UInt8} {L : Nat} (h : Row p m st L) : Lk.run p m (L + 1) = (strS m.code.length st L L).step p m := by
 show (match Lk.run p m L with | .error e => Except.error e | .ok s => if s.pick m.code.length = m.code.length then .ok s else s.step p m) = _
 rw [h.run L (Nat.le_refl L)]
 have hp := strS_pick st h.len
 have hl := h.len
 simp only
 rw [hp, if_neg (by omega)]
/-- It ends with an answer. -/
theorem Row.ret {p : Prg} {m : Meth} {st : Nat → List UInt8} {L : Nat} (h : Row p m st L) (hr : behL p m (m.code.getD L default) (st L) = .ok (st (L + 1))) (hn : nextL m.code L = []) : lookM p m = .ok (strS m.code.length st (L + 1) L) := by
 have hp := strS_pick st h.len
 have h1 : Lk.run p m (L + 1) = .ok (strS m.code.length st (L + 1) L) := by
  rw [h.mid]
  unfold Lk.step
  simp only [hp]
  rw [strS_stk st h.len, hr, hn]
  have h2 := strS_take st h.len
  unfold Lk.take at h2
  rw [strS_stk st h.len] at h2
  simp only [h2, List.foldlM_nil]
  rfl
 have h3 : (strS m.code.length st (L + 1) L).pick m.code.length = m.code.length := by
  refine pick_none (fun j hj => ?_)
  show (((List.range m.code.length).map fun j => decide (j ≤ L)).getD j false && !((List.range m.code.length).map fun j => decide (j < L + 1)).getD j false) = false
  rw [range_getD, range_getD, if_pos hj, if_pos hj]
  by_cases h4 : j ≤ L
  ·rw [decide_eq_true (show j < L + 1 by omega), Bool.not_true, Bool.and_false]
  ·rw [decide_eq_false h4, Bool.false_and]
 have h4 := run_stay h1 h3 (m.code.length - L)
 have hl := h.len
 rwa [show L + 1 + (m.code.length - L) = m.code.length + 1 by omega] at h4
/-- It is refused. -/
theorem Row.bad {p : Prg} {m : Meth} {st : Nat → List UInt8} {L : Nat} {e : Int} (h : Row p m st L) (hr : behL p m (m.code.getD L default) (st L) = .error e) : lookM p m = .error (e, L) := by
 have hp := strS_pick st h.len
 have h1 : Lk.run p m (L + 1) = .error (e, L) := by
  rw [h.mid]
  unfold Lk.step
  simp only [hp]
  rw [strS_stk st h.len, hr]
 have h4 := run_err h1 (m.code.length - L)
 have hl := h.len
 rwa [show L + 1 + (m.code.length - L) = m.code.length + 1 by omega] at h4
/-- It falls off its end. -/
theorem Row.fall {p : Prg} {m : Meth} {st : Nat → List UInt8} {L : Nat} {t : List UInt8} (h : Row p m st L) (hr : behL p m (m.code.getD L default) (st L) = .ok t) (hn : nextL m.code L = [(L : Int) + 1]) (hl : m.code.length = L + 1) : lookM p m = .error (110, L) := by
 have hp := strS_pick st h.len
 have h1 : Lk.run p m (L + 1) = .error (110, L) := by
  rw [h.mid]
  unfold Lk.step
  simp only [hp]
  rw [strS_stk st h.len, hr, hn]
  simp only [List.foldlM_cons]
  unfold Lk.to
  rw [if_pos (by omega)]
  rfl
 have h4 := run_err h1 (m.code.length - L)
 rwa [show L + 1 + (m.code.length - L) = m.code.length + 1 by omega] at h4

end Go.Proofs.YtojobkhidlfeoaaDoor

/-! The look at a method, plain: two ways that meet. -/
namespace Go.Proofs.YtojobkhidlfeoaaDoor

/-- The programs of the law's: the second method is this. -/
def withM (m : Meth) : Prg := ⟨[⟨#[73, 82]⟩], [⟨ByteArray.empty, ByteArray.empty, ByteArray.empty, [⟨33, 0, 0, 0⟩]⟩, m]⟩
def plainM (l : List Ins) : Meth := ⟨ByteArray.empty, ByteArray.empty, ByteArray.empty, l⟩
def faultL : Except (Int × Nat) Lk → Int
 | .ok _ => 0
 | .error e => e.1
/-- An integer, or no object. -/
def pushI (r : Bool) : Ins := if r then ⟨2, 0, 0, 0⟩ else ⟨1, 0, 0, 1⟩
def twice : Nat → List Ins
 | 0 => []
 | n + 1 => ⟨5, 0, 0, 0⟩ :: ⟨6, 0, 0, 0⟩ :: twice n
def meetC (a b : Bool) (n : Nat) : List Ins := [⟨34, 0, 0, 0⟩, ⟨23, 4, 0, 0⟩, pushI a, ⟨22, 5, 0, 0⟩, pushI b] ++ twice n ++ [⟨6, 0, 0, 0⟩, ⟨33, 0, 0, 0⟩]
theorem empty_toList : ByteArray.empty.toList = [] := by
 unfold ByteArray.toList ByteArray.toList.loop
 rfl
set_option maxRecDepth 100000 in
theorem meet_fault (a b : Bool) (n : Nat) (hn : n < 4) : faultL (lookM (withM (plainM (meetC a b n))) (plainM (meetC a b n))) = if a = b then 0 else 109 := by
 have h : n = 0 ∨ n = 1 ∨ n = 2 ∨ n = 3 := by omega
 rcases h with rfl | rfl | rfl | rfl <;> cases a <;> cases b <;> decide +kernel

end Go.Proofs.YtojobkhidlfeoaaDoor

/-! The look at a method, plain: so many are pushed and put out. -/
namespace Go.Proofs.YtojobkhidlfeoaaDoor

theorem cut_tail {α : Type} (u v : List α) : (u ++ v).drop ((u ++ v).length - v.length) = v ∧ (u ++ v).take ((u ++ v).length - v.length) = u := by
 have h : (u ++ v).length - v.length = u.length := by rw [List.length_append]; omega
 rw [h]
 exact ⟨by simp, by simp⟩
theorem behL_of {p : Prg} {m : Meth} {x : Ins} {u pop push : List UInt8} (h5 : x.op ≠ 5) (h6 : x.op ≠ 6) (h7 : x.op ≠ 7) (he : effL p m x = some (pop, push)) (hl : (u ++ push).length ≤ 12) (hr : x.op ≠ 33 ∨ u ++ push = []) : behL p m x (u ++ pop) = .ok (u ++ push) := by
 unfold behL
 rw [if_neg h5, if_neg h6, if_neg h7, he]
 simp only
 rw [if_neg (by rw [List.length_append]; omega), (cut_tail u pop).1, (cut_tail u pop).2, if_neg (fun h => h rfl), if_neg]
 rintro (h | ⟨h, h2⟩)
 ·omega
 ·rcases hr with h3 | h3
  ·exact h3 h
  ·exact h2 h3
theorem behL_much {p : Prg} {m : Meth} {x : Ins} {u pop push : List UInt8} (h5 : x.op ≠ 5) (h6 : x.op ≠ 6) (h7 : x.op ≠ 7) (he : effL p m x = some (pop, push)) (hl : 12 < (u ++ push).length) : behL p m x (u ++ pop) = .error 108 := by
 unfold behL
 rw [if_neg h5, if_neg h6, if_neg h7, he]
 simp only
 rw [if_neg (by rw [List.length_append]; omega), (cut_tail u pop).1, (cut_tail u pop).2, if_neg (fun h => h rfl), if_pos (.inl hl)]
theorem nextL_on {xs : List Ins} {i : Nat} (hi : i < xs.length) (h1 : (xs.getD i default).op ≠ 33) (h2 : (xs.getD i default).op ≠ 22) (h3 : (xs.getD i default).op ≠ 23) : nextL xs i = [(i : Int) + 1] := by
 unfold nextL
 rw [if_pos ⟨by omega, by omega⟩]
 simp only [Int.toNat_natCast]
 rw [if_neg h1, if_neg h2, if_neg h3]
theorem nextL_ret {xs : List Ins} {i : Nat} (hi : i < xs.length) (h1 : (xs.getD i default).op = 33) : nextL xs i = [] := by
 unfold nextL
 rw [if_pos ⟨by omega, by omega⟩]
 simp only [Int.toNat_natCast]
 rw [if_pos h1]
theorem eff_const (p : Prg) (m : Meth) (x : Ins) (h : x.op = 1) : effL p m x = some ([], [lI]) := by
 unfold effL; simp [h]
theorem eff_out (p : Prg) (m : Meth) (x : Ins) (h : x.op = 35) : effL p m x = some ([lI], []) := by
 unfold effL; simp [h]
theorem eff_ret (p : Prg) (m : Meth) (x : Ins) (h : x.op = 33) : effL p m x = some (m.ret.toList, []) := by
 unfold effL; simp [h]

/-- So many are pushed, and put out. -/
def highC (n : Nat) : List Ins := (List.range n).map (fun i => ⟨1, 0, 0, (i : Int)⟩) ++ List.replicate n ⟨35, 0, 0, 0⟩ ++ [⟨33, 0, 0, 0⟩]
theorem highC_len (n : Nat) : (highC n).length = 2 * n + 1 := by
 unfold highC; simp; omega
theorem highC_const (n i : Nat) (hi : i < n) : ((highC n).getD i default).op = 1 := by
 unfold highC
 rw [List.getD_eq_getElem?_getD, List.append_assoc, List.getElem?_append_left (by simpa using hi), List.getElem?_map, List.getElem?_range hi]
 rfl
theorem highC_out (n i : Nat) (hi : n ≤ i) (h2 : i < 2 * n) : ((highC n).getD i default).op = 35 := by
 unfold highC
 rw [List.getD_eq_getElem?_getD, List.getElem?_append_left (by simp; omega), List.getElem?_append_right (by simpa using hi), List.getElem?_replicate]
 simp only [List.length_map, List.length_range]
 rw [if_pos (by omega)]
 rfl
theorem highC_ret (n : Nat) : ((highC n).getD (2 * n) default).op = 33 := by
 unfold highC
 rw [List.getD_eq_getElem?_getD, List.getElem?_append_right (by simp; omega)]
 simp only [List.length_append, List.length_map, List.length_range, List.length_replicate]
 rw [show 2 * n - (n + n) = 0 by omega]
 rfl
def highS (n i : Nat) : List UInt8 := List.replicate (min i (2 * n - i)) lI
theorem high_row (n : Nat) (hn : n ≤ 12) : Row (withM (plainM (highC n))) (plainM (highC n)) (highS n) (2 * n) := by
 refine ⟨by show 2 * n < (highC n).length; rw [highC_len]; omega, by simp [highS], fun i hi => ?_, fun i hi => ?_⟩
 ·show behL _ _ ((highC n).getD i default) _ = _
  rcases Nat.lt_or_ge i n with h | h
  ·have h1 := highC_const n i h
   have h2 : highS n i = highS n i ++ [] := by simp
   have h3 : highS n (i + 1) = highS n i ++ [lI] := by
    unfold highS
    rw [show min (i + 1) (2 * n - (i + 1)) = min i (2 * n - i) + 1 by omega, List.replicate_succ']
   rw [h2, h3]
   refine behL_of (by omega) (by omega) (by omega) (eff_const _ _ _ h1) ?_ (.inl (by omega))
   unfold highS; simp; omega
  ·have h1 := highC_out n i h hi
   have h2 : highS n i = highS n (i + 1) ++ [lI] := by
    unfold highS
    rw [show min i (2 * n - i) = min (i + 1) (2 * n - (i + 1)) + 1 by omega, List.replicate_succ']
   have h3 : highS n (i + 1) = highS n (i + 1) ++ [] := by simp
   rw [h2]
   refine (behL_of (by omega) (by omega) (by omega) (eff_out _ _ _ h1) ?_ (.inl (by omega))).trans (by rw [← h3])
   unfold highS; simp; omega
 ·show nextL (highC n) i = _
  have hl := highC_len n
  rcases Nat.lt_or_ge i n with h | h
  ·have h1 := highC_const n i h
   exact nextL_on (by omega) (by omega) (by omega) (by omega)
  ·have h1 := highC_out n i h hi
   exact nextL_on (by omega) (by omega) (by omega) (by omega)
theorem high_most (n : Nat) : ∀ i, i ≤ 2 * n + 1 → mostS (highS n) i = min i n
 | 0, _ => by simp [mostS]
 | i + 1, hi => by
  show max (mostS (highS n) i) (max (highS n i).length (highS n (i + 1)).length) = _
  rw [high_most n i (by omega)]
  unfold highS
  simp only [List.length_replicate]
  omega
/-- So many may be. -/
theorem high_ok (n : Nat) (hn : n ≤ 12) : lookM (withM (plainM (highC n))) (plainM (highC n)) = .ok (strS (2 * n + 1) (highS n) (2 * n + 1) (2 * n)) := by
 have h := (high_row n hn).ret (m := plainM (highC n)) (p := withM (plainM (highC n)))
  (by
   have h1 := highC_ret n
   have h2 : highS n (2 * n) = [] := by unfold highS; simp
   have h3 : highS n (2 * n + 1) = [] := by unfold highS; simp
   rw [h2, h3]
   have h4 := behL_of (p := withM (plainM (highC n))) (m := plainM (highC n)) (x := (highC n).getD (2 * n) default) (u := []) (pop := []) (push := []) (by omega) (by omega) (by omega) (by rw [eff_ret _ _ _ h1]; show some (ByteArray.empty.toList, []) = _; rw [empty_toList]) (by simp) (.inr rfl)
   exact h4)
  (nextL_ret (by show _ < (highC n).length; rw [highC_len]; omega) (highC_ret n))
 have h5 : (plainM (highC n)).code.length = 2 * n + 1 := highC_len n
 rw [h5] at h
 exact h
/-- One more may not. -/
theorem high_bad (n : Nat) (hn : 12 < n) : lookM (withM (plainM (highC n))) (plainM (highC n)) = .error (108, 12) := by
 have hr : Row (withM (plainM (highC n))) (plainM (highC n)) (fun i => List.replicate i lI) 12 := by
  have hl := highC_len n
  refine ⟨by show 12 < (highC n).length; omega, rfl, fun i hi => ?_, fun i hi => ?_⟩
  ·show behL _ _ ((highC n).getD i default) _ = _
   have h1 := highC_const n i (by omega)
   have h3 : List.replicate (i + 1) lI = List.replicate i lI ++ [lI] := List.replicate_succ'
   rw [h3, ← List.append_nil (List.replicate i lI)]
   refine (behL_of (by omega) (by omega) (by omega) (eff_const _ _ _ h1) ?_ (.inl (by omega))).trans (by simp)
   simp; omega
  ·have h1 := highC_const n i (by omega)
   exact nextL_on (by show i < (highC n).length; omega) (by show ((highC n).getD i default).op ≠ 33; omega) (by show ((highC n).getD i default).op ≠ 22; omega) (by show ((highC n).getD i default).op ≠ 23; omega)
 refine hr.bad ?_
 show behL _ _ ((highC n).getD 12 default) _ = _
 have h1 := highC_const n 12 hn
 have h4 := behL_much (p := withM (plainM (highC n))) (m := plainM (highC n)) (x := (highC n).getD 12 default) (u := List.replicate 12 lI) (pop := []) (push := [lI]) (by omega) (by omega) (by omega) (eff_const _ _ _ h1) (by simp)
 rw [List.append_nil] at h4
 exact h4

end Go.Proofs.YtojobkhidlfeoaaDoor
