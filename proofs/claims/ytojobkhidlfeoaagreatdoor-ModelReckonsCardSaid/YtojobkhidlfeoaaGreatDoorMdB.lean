/- What a program means, plain: programs whose verification is reckoned; two integers by an op. -/
import Derived.Test.YtojobkhidlfeoaaGreatDoorMdS
namespace Go.Proofs.YtojobkhidlfeoaaGreatDoor

/-- A program that may be, as a test. -/
def Prg.okB (p : Prg) : Bool :=
  decide (p.cs.length ≤ 12) && decide (1 ≤ p.ms.length) && decide (p.ms.length ≤ 12) &&
  (List.range p.cs.length).all (fun j => clsCode (p.cs.getD j ByteArray.empty) == 0) &&
  (List.range p.ms.length).all (fun j => headCode j (p.ms.getD j default) == 0) &&
  (List.range p.ms.length).all (fun j => (List.range (p.ms.getD j default).code.length).all fun q => insCode p.cs p.ms.length (p.ms.getD j default) ((p.ms.getD j default).code.getD q default) == 0)
theorem Prg.ok_of {p : Prg} (h : p.okB = true) : p.Ok := by
  unfold Prg.okB at h
  simp only [Bool.and_eq_true, decide_eq_true_eq, List.all_eq_true, List.mem_range, beq_iff_eq] at h
  obtain ⟨⟨⟨⟨⟨h1, h2⟩, h3⟩, h4⟩, h5⟩, h6⟩ := h
  exact ⟨h1, h2, h3, h4, h5, h6⟩
/-- What the look tells of each method. -/
def Prg.looks (p : Prg) : List Lk := p.ms.map fun m => match lookM p m with | .ok s => s | .error _ => default
def Prg.lookB (p : Prg) : Bool := p.ms.all fun m => match lookM p m with | .ok _ => true | .error _ => false
theorem Prg.looks_of {p : Prg} (h : p.lookB = true) : Looks p p.looks := by
  refine ⟨by simp [Prg.looks], fun j hj => ?_⟩
  unfold Prg.lookB at h
  rw [List.all_eq_true] at h
  have h1 := h _ (getD_mem hj)
  unfold Prg.looks
  have e0 : ∀ F : Meth → Lk, (p.ms.map F).getD j default = F (p.ms.getD j default) := fun F => by
    simp [List.getD_eq_getElem?_getD, List.getElem?_map, List.getElem?_eq_getElem hj]
  rw [e0]
  cases e : lookM p (p.ms.getD j default) with
  | ok s => rfl
  | error e2 => rw [e] at h1; cases h1
theorem Ins.bd_default : (default : Ins).bd := by unfold Ins.bd; decide
/-- All integers of a program are. -/
theorem Prg.bd_of {p : Prg} (h : ∀ m ∈ p.ms, ∀ x ∈ m.code, x.bd) : p.Bd := by
  intro m pc
  unfold Prg.at_
  by_cases hm : m < p.ms.length
  · by_cases hp : pc < (p.ms.getD m default).code.length
    · exact h _ (getD_mem hm) _ (getD_mem hp)
    · rw [List.getD_eq_getElem?_getD (l := (p.ms.getD m default).code), List.getElem?_eq_none (by omega)]
      exact Ins.bd_default
  · rw [List.getD_eq_getElem?_getD (l := p.ms), List.getElem?_eq_none (by omega)]
    exact Ins.bd_default
theorem ins_bd {op n : Int} (h : -1000 ≤ op ∧ op ≤ 1000) (hn : in64 n) : (⟨op, 0, 0, n⟩ : Ins).bd := by
  unfold in64 at hn
  unfold Ins.bd
  simp only
  omega

/-- Two integers, an op. -/
def twoP (op a b : Int) : Prg := ⟨[], [⟨ByteArray.empty, ByteArray.empty, bs [73], [⟨1, 0, 0, a⟩, ⟨1, 0, 0, b⟩, ⟨op, 0, 0, 0⟩, ⟨33, 0, 0, 0⟩]⟩]⟩
def negP (a : Int) : Prg := ⟨[], [⟨ByteArray.empty, ByteArray.empty, bs [73], [⟨1, 0, 0, a⟩, ⟨18, 0, 0, 0⟩, ⟨33, 0, 0, 0⟩]⟩]⟩
theorem two_ops {op : Int} (h : 8 ≤ op ∧ op ≤ 20 ∧ op ≠ 18) : op = 8 ∨ op = 9 ∨ op = 10 ∨ op = 11 ∨ op = 12 ∨ op = 13 ∨ op = 14 ∨ op = 15 ∨ op = 16 ∨ op = 17 ∨ op = 19 ∨ op = 20 := by omega
theorem twoP_ok {op a b : Int} (h : 8 ≤ op ∧ op ≤ 20 ∧ op ≠ 18) (ha : in64 a) (hb : in64 b) : Vf (twoP op a b) (twoP op a b).looks := by
  refine ⟨Prg.ok_of ?_, Prg.looks_of ?_, Prg.bd_of ?_⟩
  · rcases two_ops h with rfl | rfl | rfl | rfl | rfl | rfl | rfl | rfl | rfl | rfl | rfl | rfl <;> kernel_rfl
  · rcases two_ops h with rfl | rfl | rfl | rfl | rfl | rfl | rfl | rfl | rfl | rfl | rfl | rfl <;> kernel_rfl
  · intro m hm x hx
    simp only [twoP, List.mem_singleton] at hm
    subst hm
    simp only [List.mem_cons, List.not_mem_nil, or_false] at hx
    rcases hx with rfl | rfl | rfl | rfl
    · exact ins_bd (by omega) ha
    · exact ins_bd (by omega) hb
    · exact ins_bd (by omega) in_0
    · exact ins_bd (by omega) in_0
theorem negP_ok {a : Int} (ha : in64 a) : Vf (negP a) (negP a).looks := by
  refine ⟨Prg.ok_of (by kernel_rfl), Prg.looks_of (by kernel_rfl), Prg.bd_of ?_⟩
  intro m hm x hx
  simp only [negP, List.mem_singleton] at hm
  subst hm
  simp only [List.mem_cons, List.not_mem_nil, or_false] at hx
  rcases hx with rfl | rfl | rfl
  · exact ins_bd (by omega) ha
  · exact ins_bd (by omega) in_0
  · exact ins_bd (by omega) in_0
theorem twoP_run {op a b : Int} (h : 8 ≤ op ∧ op ≤ 20 ∧ op ≠ 18) (ha : in64 a) (hb : in64 b) :
    ((Mc.new (twoP op a b) [] 0).run (twoP op a b)).out = [] ∧ ((Mc.new (twoP op a b) [] 0).run (twoP op a b)).fin = some (if (twoL op a b).2 ≠ 0 then ⟨2, (twoL op a b).2, 0, 2, 0⟩ else ⟨1, 0, 0, 0, (twoL op a b).1⟩) := by
  have v := twoP_ok h ha hb
  have h0 := Mc.Ok.new v (inp := []) (fuel := 0) (by simp) (by omega)
  have key : (Mc.steps (twoP op a b) 4 (Mc.new (twoP op a b) [] 0)).out = [] ∧ (Mc.steps (twoP op a b) 4 (Mc.new (twoP op a b) [] 0)).fin = some (if (twoL op a b).2 ≠ 0 then ⟨2, (twoL op a b).2, 0, 2, 0⟩ else ⟨1, 0, 0, 0, (twoL op a b).1⟩) := by
    clear h0 v
    by_cases h11 : op = 11 ∨ op = 12
    · by_cases hb0 : b = 0
      · subst hb0
        rcases h11 with rfl | rfl
        · exact ⟨by kernel_rfl, by kernel_rfl⟩
        · exact ⟨by kernel_rfl, by kernel_rfl⟩
      · rcases h11 with rfl | rfl
        · have e : twoL 11 a b = (IntKind.i64.wrap (a.tdiv b), 0) := by unfold twoL; simp [hb0]
          have e2 : Mc.plain (twoP 11 a b) ⟨[⟨0, 2, [], [vi a, vi b]⟩], [], [], 0, [], none⟩ ⟨0, 2, [], [vi a, vi b]⟩ ⟨11, 0, 0, 0⟩ = .go [] [vi (IntKind.i64.wrap (a.tdiv b))] [] [] [] := by
            show (if (twoL 11 a b).2 ≠ 0 then Mact.trap (twoL 11 a b).2 else Mact.go [] [vi (twoL 11 a b).1] [] [] []) = _
            rw [e]
            rfl
          have e3 : Mc.step (twoP 11 a b) ⟨[⟨0, 2, [], [vi a, vi b]⟩], [], [], 0, [], none⟩ = ⟨[⟨0, 3, [], [vi (IntKind.i64.wrap (a.tdiv b))]⟩], [], [], 0, [], none⟩ := by
            show (match Mc.plain (twoP 11 a b) ⟨[⟨0, 2, [], [vi a, vi b]⟩], [], [], 0, [], none⟩ ⟨0, 2, [], [vi a, vi b]⟩ ⟨11, 0, 0, 0⟩ with | .trap t => _ | .go loc stk objs inp out => _) = _
            rw [e2]
          have e4 : Mc.steps (twoP 11 a b) 4 (Mc.new (twoP 11 a b) [] 0) = Mc.step (twoP 11 a b) (Mc.step (twoP 11 a b) ⟨[⟨0, 2, [], [vi a, vi b]⟩], [], [], 0, [], none⟩) := by kernel_rfl
          rw [e4, e3, e]
          exact ⟨by kernel_rfl, by kernel_rfl⟩
        · have e : twoL 12 a b = (a.tmod b, 0) := by unfold twoL; simp [hb0]
          have e2 : Mc.plain (twoP 12 a b) ⟨[⟨0, 2, [], [vi a, vi b]⟩], [], [], 0, [], none⟩ ⟨0, 2, [], [vi a, vi b]⟩ ⟨12, 0, 0, 0⟩ = .go [] [vi (a.tmod b)] [] [] [] := by
            show (if (twoL 12 a b).2 ≠ 0 then Mact.trap (twoL 12 a b).2 else Mact.go [] [vi (twoL 12 a b).1] [] [] []) = _
            rw [e]
            rfl
          have e3 : Mc.step (twoP 12 a b) ⟨[⟨0, 2, [], [vi a, vi b]⟩], [], [], 0, [], none⟩ = ⟨[⟨0, 3, [], [vi (a.tmod b)]⟩], [], [], 0, [], none⟩ := by
            show (match Mc.plain (twoP 12 a b) ⟨[⟨0, 2, [], [vi a, vi b]⟩], [], [], 0, [], none⟩ ⟨0, 2, [], [vi a, vi b]⟩ ⟨12, 0, 0, 0⟩ with | .trap t => _ | .go loc stk objs inp out => _) = _
            rw [e2]
          have e4 : Mc.steps (twoP 12 a b) 4 (Mc.new (twoP 12 a b) [] 0) = Mc.step (twoP 12 a b) (Mc.step (twoP 12 a b) ⟨[⟨0, 2, [], [vi a, vi b]⟩], [], [], 0, [], none⟩) := by kernel_rfl
          rw [e4, e3, e]
          exact ⟨by kernel_rfl, by kernel_rfl⟩
    · rcases two_ops h with rfl | rfl | rfl | rfl | rfl | rfl | rfl | rfl | rfl | rfl | rfl | rfl
      all_goals first | omega | exact ⟨by kernel_rfl, by kernel_rfl⟩
  rw [← h0.run_is v (k := 4) (by rw [key.2]; intro e; cases e)]
  exact key
theorem negP_run {a : Int} (ha : in64 a) : ((Mc.new (negP a) [] 0).run (negP a)).out = [] ∧ ((Mc.new (negP a) [] 0).run (negP a)).fin = some ⟨1, 0, 0, 0, IntKind.i64.wrap (-a)⟩ := by
  have v := negP_ok ha
  have h0 := Mc.Ok.new v (inp := []) (fuel := 0) (by simp) (by omega)
  have key : (Mc.steps (negP a) 3 (Mc.new (negP a) [] 0)).out = [] ∧ (Mc.steps (negP a) 3 (Mc.new (negP a) [] 0)).fin = some ⟨1, 0, 0, 0, IntKind.i64.wrap (-a)⟩ := ⟨by kernel_rfl, by kernel_rfl⟩
  rw [← h0.run_is v (k := 3) (by rw [key.2]; intro e; cases e)]
  exact key
end Go.Proofs.YtojobkhidlfeoaaGreatDoor
