/- The look at a method, plain: what holds when it is done. -/
import Derived.Test.YtjndigfmemdmjaaDoorVerL3
namespace Go.Proofs.YtjndigfmemdmjaaDoor

/-- What was seen stays as it was. -/
structure Lk.Le (s s' : Lk) : Prop where
  seen : ∀ i, s.seen.getD i false = true → s'.seen.getD i false = true
  stk : ∀ i, s.seen.getD i false = true → s'.stk.getD i [] = s.stk.getD i []
theorem Lk.Le.refl (s : Lk) : s.Le s := ⟨fun _ h => h, fun _ _ => rfl⟩
theorem Lk.Le.trans {a b c : Lk} (h : a.Le b) (h2 : b.Le c) : a.Le c := ⟨fun i hi => h2.seen i (h.seen i hi), fun i hi => (h2.stk i (h.seen i hi)).trans (h.stk i hi)⟩

theorem getD_set_b {α : Type} (l : List α) (k i : Nat) (v d : α) : (l.set k v).getD i d = if k = i ∧ k < l.length then v else l.getD i d := by
  rw [List.getD_eq_getElem?_getD, List.getElem?_set]
  by_cases h : k = i
  · subst h
    by_cases h2 : k < l.length
    · simp [h2]
    · simp [h2]
  · simp [h]

theorem to_le {n : Nat} {s s' : Lk} {k : Int} {t : List UInt8} (h : s.Ok n) (hn : 0 < n) (e : Lk.to n s k t = .ok s') : s.Le s' ∧ k < n ∧ s'.seen.getD k.toNat false = true ∧ s'.stk.getD k.toNat [] = t := by
  unfold Lk.to at e
  split at e
  · cases e
  · rename_i hk
    have hkn : k.toNat < n := by omega
    split at e
    · rename_i hs
      cases e
      refine ⟨⟨fun i hi => ?_, fun i hi => ?_⟩, by omega, ?_, ?_⟩
      · show (s.seen.set k.toNat true).getD i false = true
        rw [getD_set_b]
        split
        · rfl
        · exact hi
      · show (s.stk.set k.toNat t).getD i [] = _
        rw [getD_set_b, if_neg]
        rintro ⟨rfl, _⟩
        rw [hs] at hi
        cases hi
      · show (s.seen.set k.toNat true).getD k.toNat false = true
        rw [getD_set_b, if_pos ⟨rfl, by rw [h.seen]; exact hkn⟩]
      · show (s.stk.set k.toNat t).getD k.toNat [] = t
        rw [getD_set_b, if_pos ⟨rfl, by rw [h.stk]; exact hkn⟩]
    · rename_i hs
      split at e
      · cases e
      · rename_i ht
        cases e
        refine ⟨Lk.Le.refl _, by omega, by simpa using hs, Decidable.byContradiction ht⟩
theorem tos_le {n : Nat} {t : List UInt8} (hn : 0 < n) (ht : t.length ≤ 12) : ∀ {l : List Int} {s s' : Lk}, s.Ok n → l.foldlM (fun s k => Lk.to n s k t) s = .ok s' → s.Le s' ∧ ∀ k ∈ l, k < n ∧ s'.seen.getD k.toNat false = true ∧ s'.stk.getD k.toNat [] = t
  | [], _, _, _, e => by cases e; exact ⟨Lk.Le.refl _, fun _ h => by cases h⟩
  | k :: l, s, s', h, e => by
    rw [List.foldlM_cons] at e
    cases h1 : Lk.to n s k t with
    | error e' => rw [h1] at e; cases e
    | ok s1 =>
      rw [h1] at e
      have h2 := to_le h hn h1
      have h3 := tos_le hn ht (h.to ht h1) (show l.foldlM (fun s k => Lk.to n s k t) s1 = .ok s' from e)
      refine ⟨h2.1.trans h3.1, fun j hj => ?_⟩
      rcases List.mem_cons.1 hj with rfl | hj
      · exact ⟨h2.2.1, h3.1.seen _ h2.2.2.1, (h3.1.stk _ h2.2.2.1).trans h2.2.2.2⟩
      · exact h3.2 j hj

/-- What holds in the midst of the look. -/
structure Lk.Good (p : Prg) (m : Meth) (s : Lk) : Prop where
  ds : ∀ i, s.done.getD i false = true → s.seen.getD i false = true
  zero : s.seen.getD 0 false = true
  empty : s.stk.getD 0 [] = []
  all : ∀ i, s.done.getD i false = true → ∃ t, behL p m (m.code.getD i default) (s.stk.getD i []) = .ok t ∧ (s.stk.getD i []).length ≤ s.most ∧ t.length ≤ s.most ∧ ∀ k ∈ nextL m.code i, k < m.code.length ∧ s.seen.getD k.toNat false = true ∧ s.stk.getD k.toNat [] = t
theorem Lk.Good.start (p : Prg) (m : Meth) (hn : 0 < m.code.length) : (Lk.init m.code.length).Good p m := by
  have h1 : ∀ i, (List.replicate m.code.length false).getD i false = false := fun i => by
    rw [List.getD_eq_getElem?_getD, List.getElem?_replicate]
    split <;> rfl
  refine ⟨fun i hi => ?_, ?_, ?_, fun i hi => ?_⟩
  · rw [show (Lk.init m.code.length).done = List.replicate m.code.length false from rfl, h1] at hi
    cases hi
  · show ((List.replicate m.code.length false).set 0 true).getD 0 false = true
    rw [getD_set_b, if_pos ⟨rfl, by simpa using hn⟩]
  · show (List.replicate m.code.length ([] : List UInt8)).getD 0 [] = []
    rw [List.getD_eq_getElem?_getD, List.getElem?_replicate, if_pos hn]
    rfl
  · rw [show (Lk.init m.code.length).done = List.replicate m.code.length false from rfl, h1] at hi
    cases hi
theorem Lk.Good.next {p : Prg} {m : Meth} {s s' : Lk} (hn : 0 < m.code.length) (g : s.Good p m) (h : s.Ok m.code.length) (hp : s.pick m.code.length < m.code.length) (e : s.step p m = .ok s') : s'.Good p m := by
  unfold Lk.step at e
  simp only at e
  cases h1 : behL p m (m.code.getD (s.pick m.code.length) default) (s.stk.getD (s.pick m.code.length) []) with
  | error e1 => rw [h1] at e; cases e
  | ok t =>
    rw [h1] at e
    simp only at e
    cases h2 : (nextL m.code (s.pick m.code.length)).foldlM (fun s k => Lk.to m.code.length s k t) (s.take (s.pick m.code.length) t) with
    | error e2 =>
      have h3 := h2
      unfold Lk.take at h3
      rw [h3] at e; cases e
    | ok s2 =>
      have h3 := h2
      unfold Lk.take at h3
      rw [h3] at e
      cases e
      have ht := behL_low h1
      have hk := tos_keep h2
      have hl := tos_le hn ht (h.take _ ht) h2
      have hs := (pick_spec _ _ hp).1
      have hle : s.Le s' := ⟨fun i hi => hl.1.seen i hi, fun i hi => hl.1.stk i hi⟩
      have hm : s'.most = max s.most (max (s.stk.getD (s.pick m.code.length) []).length t.length) := hk.2.1
      have hd : ∀ i, s'.done.getD i false = true → i = s.pick m.code.length ∨ s.done.getD i false = true := fun i hi => by
        rw [hk.1] at hi
        have h4 : (s.take (s.pick m.code.length) t).done = s.done.set (s.pick m.code.length) true := rfl
        rw [h4, getD_set_b] at hi
        split at hi
        · rename_i h5; exact .inl h5.1.symm
        · exact .inr hi
      refine ⟨fun i hi => ?_, hle.seen 0 g.zero, (hle.stk 0 g.zero).trans g.empty, fun i hi => ?_⟩
      · rcases hd i hi with rfl | h4
        · exact hle.seen _ hs
        · exact hle.seen i (g.ds i h4)
      · rcases hd i hi with rfl | h4
        · rw [hle.stk _ hs]
          exact ⟨t, h1, by omega, by omega, hl.2⟩
        · obtain ⟨u, h5, h6, h7, h8⟩ := g.all i h4
          rw [hle.stk i (g.ds i h4)]
          exact ⟨u, h5, by omega, by omega, fun k hk2 => ⟨(h8 k hk2).1, hle.seen _ (h8 k hk2).2.1, (hle.stk _ (h8 k hk2).2.1).trans (h8 k hk2).2.2⟩⟩
theorem run_good {p : Prg} {m : Meth} (hn : 0 < m.code.length) : ∀ (i : Nat) {s : Lk}, Lk.run p m i = .ok s → s.Good p m ∧ s.Ok m.code.length ∧ (s.pick m.code.length = m.code.length ∨ s.cnt = i)
  | 0, s, e => by cases e; exact ⟨Lk.Good.start p m hn, Lk.Ok.start _, .inr (Lk.Mid.start p m).cnt⟩
  | i + 1, s, e => by
    have e2 : (match Lk.run p m i with | .error e => Except.error e | .ok s => if s.pick m.code.length = m.code.length then .ok s else s.step p m) = .ok s := e
    cases h1 : Lk.run p m i with
    | error e' => rw [h1] at e2; cases e2
    | ok s0 =>
      rw [h1] at e2
      simp only at e2
      have h2 := run_good hn i h1
      by_cases hp : s0.pick m.code.length = m.code.length
      · rw [if_pos hp] at e2
        cases e2
        exact ⟨h2.1, h2.2.1, .inl hp⟩
      · rw [if_neg hp] at e2
        have hlt : s0.pick m.code.length < m.code.length := by have := pick_le s0 m.code.length; omega
        have h3 := step_ok h2.2.1 hlt e2
        refine ⟨h2.1.next hn h2.2.1 hlt e2, h3.1, .inr ?_⟩
        rcases h2.2.2 with h4 | h4
        · omega
        · omega
/-- What the look says when it is done. -/
theorem look_good {p : Prg} {m : Meth} {s : Lk} (hn : 0 < m.code.length) (e : lookM p m = .ok s) : s.Good p m ∧ s.Ok m.code.length ∧ ∀ i, s.seen.getD i false = true → s.done.getD i false = true := by
  have h := run_good hn (m.code.length + 1) e
  refine ⟨h.1, h.2.1, fun i hi => ?_⟩
  have hp : s.pick m.code.length = m.code.length := by
    rcases h.2.2 with h1 | h1
    · exact h1
    · have := cnt_le h.2.1
      omega
  have hlt : i < m.code.length := by
    rcases Nat.lt_or_ge i m.code.length with h1 | h1
    · exact h1
    · rw [List.getD_eq_getElem?_getD, List.getElem?_eq_none (by rw [h.2.1.seen]; exact h1)] at hi
      cases hi
  have h2 := pick_end s _ hp i hlt
  rw [hi] at h2
  simpa using h2

end Go.Proofs.YtjndigfmemdmjaaDoor
