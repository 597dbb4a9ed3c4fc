/- The look at a method, plain: along each way (VerifyWays), and with one instruction turned (VerifyOne). -/
import Derived.Test.YtpmfbhoochogoaaGreatDoorVerL5
namespace Go.Proofs.YtpmfbhoochogoaaGreatDoor

/-- A place is reached, with this on the stack. -/
def Lk.At (s : Lk) (pc : Nat) (u : List UInt8) : Prop := s.seen.getD pc false = true ∧ s.stk.getD pc [] = u
theorem Lk.at_start {p : Prg} {m : Meth} {s : Lk} (hn : 0 < m.code.length) (e : lookM p m = .ok s) : s.At 0 [] :=
  ⟨(look_good hn e).1.zero, (look_good hn e).1.empty⟩
theorem Lk.at_lt {p : Prg} {m : Meth} {s : Lk} {pc : Nat} {u : List UInt8} (hn : 0 < m.code.length) (e : lookM p m = .ok s) (h : s.At pc u) : pc < m.code.length := by
  rcases Nat.lt_or_ge pc m.code.length with h1 | h1
  · exact h1
  · have h2 := h.1
    rw [List.getD_eq_getElem?_getD, List.getElem?_eq_none (by rw [(look_good hn e).2.1.seen]; exact h1)] at h2
    cases h2
theorem Lk.at_next {p : Prg} {m : Meth} {s : Lk} {pc : Nat} {u : List UInt8} (hn : 0 < m.code.length) (e : lookM p m = .ok s) (h : s.At pc u) :
    ∃ t, behL p m (m.code.getD pc default) u = .ok t ∧ u.length ≤ s.most ∧ u.length ≤ 12 ∧ (nextL m.code pc = [] → t = []) ∧ ∀ k ∈ nextL m.code pc, k < m.code.length ∧ s.At k.toNat t := by
  have hg := look_good hn e
  obtain ⟨t, h1, h2, _, h4⟩ := hg.1.all pc (hg.2.2 pc h.1)
  rw [h.2] at h1 h2
  have h5 := hg.2.1.low pc
  rw [h.2] at h5
  exact ⟨t, h1, h2, h5, fun h6 => behL_ret h1 (nextL_nil (Lk.at_lt hn e h) h6), fun k hk => ⟨(h4 k hk).1, (h4 k hk).2⟩⟩

/-- A method's instruction is turned. -/
def Meth.turn (m : Meth) (pc : Nat) (x : Ins) : Meth := { m with code := m.code.set pc x }
def Prg.turn (p : Prg) (k pc : Nat) (x : Ins) : Prg := { p with ms := p.ms.set k ((p.ms.getD k default).turn pc x) }
theorem turn_get (p : Prg) (k pc : Nat) (x : Ins) (i : Nat) : (p.turn k pc x).ms.getD i default = if k = i ∧ k < p.ms.length then (p.ms.getD k default).turn pc x else p.ms.getD i default := by
  show (p.ms.set k ((p.ms.getD k default).turn pc x)).getD i default = _
  rw [getD_set_b]
theorem turn_heads (p : Prg) (k pc : Nat) (x : Ins) : p.Heads (p.turn k pc x) := by
  refine ⟨rfl, by show _ = (p.ms.set k _).length; rw [List.length_set], fun i => ?_, fun i => ?_, fun i => ?_⟩
  all_goals
    rw [turn_get]
    split
    · rename_i h
      rw [← h.1]; rfl
    · rfl
/-- Another method's look is what it was. -/
theorem turn_look (p : Prg) (k pc : Nat) (x : Ins) (i : Nat) (h : k ≠ i) : lookM (p.turn k pc x) ((p.turn k pc x).ms.getD i default) = lookM p (p.ms.getD i default) := by
  rw [turn_get, if_neg (fun e => h e.1), (turn_heads p k pc x).look]
theorem turn_len (p : Prg) (k pc : Nat) (x : Ins) (i : Nat) : ((p.turn k pc x).ms.getD i default).code.length = (p.ms.getD i default).code.length := by
  rw [turn_get]
  split
  · rename_i h
    rw [← h.1]
    show ((p.ms.getD k default).code.set pc x).length = _
    rw [List.length_set]
  · rfl

end Go.Proofs.YtpmfbhoochogoaaGreatDoor
