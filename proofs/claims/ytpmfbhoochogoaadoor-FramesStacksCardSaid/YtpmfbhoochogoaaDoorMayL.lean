/- Programs that may be, plain: why an instruction, a head, a class, a program may not be. -/
import Derived.Test.YtpmfbhoochogoaaDoorPrg
namespace Go.Proofs.YtpmfbhoochogoaaDoor

/-- The letters of a text are all I or R. -/
def lettersB (s : ByteArray) : Bool := (List.range s.size).all fun i => s.get! i == 73 || s.get! i == 82

theorem lettersB_true {s : ByteArray} : lettersB s = true ↔ ∀ i, i < s.size → s.get! i = 73 ∨ s.get! i = 82 := by
  simp [lettersB]

theorem byte_ne (fs : ByteArray) (j : Nat) (c : UInt8) (h : j < fs.size) : ((((fs[j]'h).toNat : Nat) : Int) != ((c.toNat : Nat) : Int)) = !decide (fs.get! j = c) := by
  rw [← byte_eq fs j c h]; rfl

def UA (op : Int) : Prop := op = 3 ∨ op = 4 ∨ op = 22 ∨ op = 23 ∨ op = 24 ∨ op = 25 ∨ op = 26 ∨ op = 27 ∨ op = 28 ∨ op = 29 ∨ op = 30 ∨ op = 32
instance (op : Int) : Decidable (UA op) := by unfold UA; infer_instance
def UB (op : Int) : Prop := op = 25 ∨ op = 26
instance (op : Int) : Decidable (UB op) := by unfold UB; infer_instance

/-- Why an instruction may not be; 0: it may. -/
def insCode (cs : List ByteArray) (nm : Nat) (m : Meth) (x : Ins) : Int :=
  if x.op < 1 ∨ 35 < x.op then 102
  else if (x.op = 3 ∨ x.op = 4) ∧ (x.a < 0 ∨ (m.params.size : Int) + m.locals.size ≤ x.a) then 103
  else if (x.op = 24 ∨ x.op = 25 ∨ x.op = 26 ∨ x.op = 27) ∧ (x.a < 0 ∨ (cs.length : Int) ≤ x.a ∨ UB x.op ∧ (x.b < 0 ∨ ((cs.getD x.a.toNat ByteArray.empty).size : Int) ≤ x.b)) then 103
  else if (x.op = 28 ∨ x.op = 29 ∨ x.op = 30) ∧ x.a ≠ 0 ∧ x.a ≠ 1 then 103
  else if x.op = 32 ∧ (x.a < 1 ∨ (nm : Int) ≤ x.a) then 103
  else if (x.op = 22 ∨ x.op = 23) ∧ (x.a < 0 ∨ (m.code.length : Int) ≤ x.a) then 104
  else if ¬ UA x.op ∧ x.a ≠ 0 ∨ ¬ UB x.op ∧ x.b ≠ 0 ∨ x.op ≠ 1 ∧ x.n ≠ 0 then 103
  else 0

theorem ret_int3 {a b : Int} (h : b = a) : Ending.returned (.int .i64 a) = .returned (.int .i64 b) := by rw [h]

/-- Why a class may not be. -/
def clsCode (c : ByteArray) : Int := if 10 < c.size then 101 else if lettersB c then 0 else 102
def retOk (s : ByteArray) : Prop := s.toList = [] ∨ s.toList = [73] ∨ s.toList = [82]
instance (s : ByteArray) : Decidable (retOk s) := by unfold retOk; infer_instance
/-- Why a method's head may not be. -/
def headCode (k : Nat) (m : Meth) : Int :=
  if 12 < m.params.size ∨ (12 : Int) - m.params.size < m.locals.size ∨ m.code.length < 1 ∨ 120 < m.code.length then 101
  else if ¬ lettersB m.params = true ∨ ¬ lettersB m.locals = true ∨ ¬ retOk m.ret ∨ k = 0 ∧ (m.params.toList ≠ [] ∨ m.ret.toList = [82]) then 102 else 0

/-- What May tells of a program: the code and the place. -/
def MayIs (p : Prg) (c : Int) (at_ : List Int) : Prop :=
  ((12 < p.cs.length ∨ p.ms.length < 1 ∨ 12 < p.ms.length) ∧ c = 101 ∧ at_ = []) ∨
  ((p.cs.length ≤ 12 ∧ 1 ≤ p.ms.length ∧ p.ms.length ≤ 12) ∧
    ((∃ i : Nat, i < p.cs.length ∧ (∀ j, j < i → clsCode (p.cs.getD j ByteArray.empty) = 0) ∧ clsCode (p.cs.getD i ByteArray.empty) = c ∧ c ≠ 0 ∧ at_ = [(i : Int), -1]) ∨
     ((∀ j, j < p.cs.length → clsCode (p.cs.getD j ByteArray.empty) = 0) ∧
      ((∃ k : Nat, k < p.ms.length ∧ (∀ j, j < k → headCode j (p.ms.getD j default) = 0 ∧ ∀ q, q < (p.ms.getD j default).code.length → insCode p.cs p.ms.length (p.ms.getD j default) ((p.ms.getD j default).code.getD q default) = 0) ∧
          ((headCode k (p.ms.getD k default) = c ∧ c ≠ 0 ∧ at_ = [(k : Int), -1]) ∨
           (headCode k (p.ms.getD k default) = 0 ∧ ∃ pc : Nat, pc < (p.ms.getD k default).code.length ∧ (∀ q, q < pc → insCode p.cs p.ms.length (p.ms.getD k default) ((p.ms.getD k default).code.getD q default) = 0) ∧
              insCode p.cs p.ms.length (p.ms.getD k default) ((p.ms.getD k default).code.getD pc default) = c ∧ c ≠ 0 ∧ at_ = [(k : Int), (pc : Int)]))) ∨
       ((∀ j, j < p.ms.length → headCode j (p.ms.getD j default) = 0 ∧ ∀ q, q < (p.ms.getD j default).code.length → insCode p.cs p.ms.length (p.ms.getD j default) ((p.ms.getD j default).code.getD q default) = 0) ∧ c = 0 ∧ at_ = [])))))

/-- A program that may be. -/
structure Prg.Ok (p : Prg) : Prop where
  few : p.cs.length ≤ 12
  one : 1 ≤ p.ms.length
  many : p.ms.length ≤ 12
  cls : ∀ j, j < p.cs.length → clsCode (p.cs.getD j ByteArray.empty) = 0
  meth : ∀ j, j < p.ms.length → headCode j (p.ms.getD j default) = 0
  ins : ∀ j, j < p.ms.length → ∀ q, q < (p.ms.getD j default).code.length → insCode p.cs p.ms.length (p.ms.getD j default) ((p.ms.getD j default).code.getD q default) = 0

theorem MayIs.ok {p : Prg} {at_ : List Int} (h : MayIs p 0 at_) : p.Ok := by
  rcases h with ⟨_, h, _⟩ | ⟨⟨h1, h2, h3⟩, h | ⟨h4, h | ⟨h5, _, _⟩⟩⟩
  · cases h
  · obtain ⟨i, _, _, _, h, _⟩ := h; exact absurd rfl h
  · obtain ⟨k, _, _, ⟨_, h, _⟩ | ⟨_, pc, _, _, _, h, _⟩⟩ := h
    · exact absurd rfl h
    · exact absurd rfl h
  · exact ⟨h1, h2, h3, h4, fun j hj => (h5 j hj).1, fun j hj => (h5 j hj).2⟩

theorem Prg.Ok.small {p : Prg} (h : p.Ok) : ∀ c ∈ p.cs, c.size ≤ 10 := by
  intro c hc
  obtain ⟨i, hi, rfl⟩ := List.getElem_of_mem hc
  have := h.cls i hi
  rw [List.getD_eq_getElem?_getD, List.getElem?_eq_getElem hi, Option.getD_some] at this
  unfold clsCode at this
  split at this
  · cases this
  · omega

/-- .. and then its code is 0. -/
theorem MayIs.zero {p : Prg} {c : Int} {at_ : List Int} (h : MayIs p c at_) (hp : p.Ok) : c = 0 ∧ at_ = [] := by
  rcases h with ⟨h, _, _⟩ | ⟨⟨h1, h2, h3⟩, h | ⟨h4, h | ⟨h5, h6, h7⟩⟩⟩
  · have := hp.few; have := hp.one; have := hp.many; omega
  · obtain ⟨i, hi, _, h, h0, _⟩ := h
    exact absurd (h.symm.trans (hp.cls i hi)) h0
  · obtain ⟨k, hk, _, ⟨h, h0, _⟩ | ⟨_, pc, hpc, _, h, h0, _⟩⟩ := h
    · exact absurd (h.symm.trans (hp.meth k hk)) h0
    · exact absurd (h.symm.trans (hp.ins k hk pc hpc)) h0
  · exact ⟨h6, h7⟩


end Go.Proofs.YtpmfbhoochogoaaDoor
