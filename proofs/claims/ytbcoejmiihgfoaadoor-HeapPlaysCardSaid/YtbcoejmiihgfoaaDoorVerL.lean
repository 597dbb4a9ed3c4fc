/- Where an instruction leads, plain. What is on the stack, plain: an instruction's effect, the stack behind it, the look at a method. Strings as lists of bytes. No program in sight. Programs that may be, plain: why an instruction, a head, a class, a program may not be. Letters: what strings.Trim says of a text, plain. -/
import Derived.Test.YtbcoejmiihgfoaaDoorPrg
import Derived.Lib.Strings
import Derived.Lib.SlTrimSet
/-! Where an instruction leads, plain. -/
namespace Go.Proofs.YtbcoejmiihgfoaaDoor

/-- Where an instruction goes on, rising. -/
def nextL (xs : List Ins) (pc : Int) : List Int :=
 if 0 ≤ pc ∧ pc < xs.length then
  if (xs.getD pc.toNat default).op = 33 then []
  else if (xs.getD pc.toNat default).op = 22 then [(xs.getD pc.toNat default).a]
  else if (xs.getD pc.toNat default).op = 23 then
   if (xs.getD pc.toNat default).a = pc + 1 then [pc + 1] else if (xs.getD pc.toNat default).a ≤ pc + 1 then [(xs.getD pc.toNat default).a, pc + 1] else [pc + 1, (xs.getD pc.toNat default).a]
  else [pc + 1]
 else []

end Go.Proofs.YtbcoejmiihgfoaaDoor

/-! What is on the stack, plain: an instruction's effect, the stack behind it, the look at a method. Strings as lists of bytes. No program in sight. Programs that may be, plain: why an instruction, a head, a class, a program may not be. Letters: what strings.Trim says of a text, plain. -/
/-! What is on the stack, plain: an instruction's effect, the stack behind it, the look at a method. -/
namespace Go.Proofs.YtbcoejmiihgfoaaDoor

/-- The letters I, R. -/
def lI : UInt8 := 73
def lR : UInt8 := 82
def atB (s : List UInt8) (i : Int) : List UInt8 := if 0 ≤ i ∧ i < (s.length : Int) then [s.getD i.toNat 0] else []
def kindsL (m : Meth) : List UInt8 := m.params.toList ++ m.locals.toList
def fieldL (cs : List ByteArray) (a b : Int) : List UInt8 := if 0 ≤ a ∧ a < (cs.length : Int) then atB (cs.getD a.toNat ByteArray.empty).toList b else []
/-- What an instruction takes off and lays on; none: by the stack. -/
def effL (p : Prg) (m : Meth) (x : Ins) : Option (List UInt8 × List UInt8) :=
 if 8 ≤ x.op ∧ x.op ≤ 20 ∧ x.op ≠ 18 then some ([lI, lI], [lI])
 else if x.op = 1 ∨ x.op = 34 then some ([], [lI])
 else if x.op = 2 ∨ x.op = 24 then some ([], [lR])
 else if x.op = 3 then some ([], atB (kindsL m) x.a)
 else if x.op = 4 then some (atB (kindsL m) x.a, [])
 else if x.op = 18 then some ([lI], [lI])
 else if x.op = 21 then some ([lR, lR], [lI])
 else if x.op = 22 then some ([], [])
 else if x.op = 23 ∨ x.op = 35 then some ([lI], [])
 else if x.op = 25 then some ([lR], fieldL p.cs x.a x.b)
 else if x.op = 26 then some (lR :: fieldL p.cs x.a x.b, [])
 else if x.op = 27 ∨ x.op = 31 then some ([lR], [lI])
 else if x.op = 28 then some ([lI], [lR])
 else if x.op = 29 then some ([lR, lI], atB [lI, lR] x.a)
 else if x.op = 30 then some ([lR, lI] ++ atB [lI, lR] x.a, [])
 else if x.op = 32 then (if 0 ≤ x.a ∧ x.a < (p.ms.length : Int) then some ((p.ms.getD x.a.toNat default).params.toList, (p.ms.getD x.a.toNat default).ret.toList) else some ([], []))
 else if x.op = 33 then some (m.ret.toList, [])
 else none
/-- The stack behind an instruction, or the fault's code. -/
def behL (p : Prg) (m : Meth) (x : Ins) (s : List UInt8) : Except Int (List UInt8) :=
 let out (t : List UInt8) : Except Int (List UInt8) := if 12 < t.length ∨ x.op = 33 ∧ t ≠ [] then .error 108 else .ok t
 if x.op = 5 then (if s.length < 1 then .error 108 else out (s ++ s.drop (s.length - 1)))
 else if x.op = 6 then (if s.length < 1 then .error 108 else out (s.take (s.length - 1)))
 else if x.op = 7 then (if s.length < 2 then .error 108 else out (s.take (s.length - 2) ++ s.drop (s.length - 1) ++ (s.take (s.length - 1)).drop (s.length - 2)))
 else match effL p m x with
  | some (pop, push) => if s.length < pop.length then .error 108 else if s.drop (s.length - pop.length) ≠ pop then .error 102 else out (s.take (s.length - pop.length) ++ push)
  | none => out s

/-- The look at a method, in its midst. -/
structure Lk where
 seen : List Bool
 stk : List (List UInt8)
 done : List Bool
 most : Nat
instance : Inhabited Lk := ⟨⟨[], [], [], 0⟩⟩
def Lk.init (n : Nat) : Lk := ⟨(List.replicate n false).set 0 true, List.replicate n [], List.replicate n false, 0⟩
/-- The first place that is seen and not done. -/
def Lk.pick (s : Lk) (n : Nat) : Nat := ((List.range n).find? fun i => s.seen.getD i false && !s.done.getD i false).getD n
/-- A place is led to. -/
def Lk.to (n : Nat) (s : Lk) (k : Int) (t : List UInt8) : Except Int Lk :=
 if (n : Int) ≤ k then .error 110
 else if s.seen.getD k.toNat false = false then .ok { s with seen := s.seen.set k.toNat true, stk := s.stk.set k.toNat t }
 else if s.stk.getD k.toNat [] ≠ t then .error 109 else .ok s
def Lk.step (p : Prg) (m : Meth) (s : Lk) : Except (Int × Nat) Lk :=
 let n := m.code.length
 let pc := s.pick n
 match behL p m (m.code.getD pc default) (s.stk.getD pc []) with
 | .error e => .error (e, pc)
 | .ok t => match (nextL m.code pc).foldlM (fun s k => Lk.to n s k t) { s with done := s.done.set pc true, most := max s.most (max (s.stk.getD pc []).length t.length) } with
  | .error e => .error (e, pc)
  | .ok s' => .ok s'
/-- So many rounds. -/
def Lk.run (p : Prg) (m : Meth) : Nat → Except (Int × Nat) Lk
 | 0 => .ok (Lk.init m.code.length)
 | i + 1 => match Lk.run p m i with
  | .error e => .error e
  | .ok s => if s.pick m.code.length = m.code.length then .ok s else s.step p m
/-- The look: as many rounds as there are instructions are enough. -/
def lookM (p : Prg) (m : Meth) : Except (Int × Nat) Lk := Lk.run p m (m.code.length + 1)

end Go.Proofs.YtbcoejmiihgfoaaDoor

/-! Strings as lists of bytes. No program in sight. -/
namespace Go.Proofs.YtbcoejmiihgfoaaDoor

/-- The string of these bytes. -/
def bs (l : List UInt8) : ByteArray := ⟨l.toArray⟩
theorem bs_list (l : List UInt8) : (bs l).toList = l := by rw [ByteArray.toList_eq]; rfl
theorem bs_of (s : ByteArray) : bs s.toList = s := by
 rw [ByteArray.toList_eq]
 obtain ⟨⟨l⟩⟩ := s
 rfl
theorem bs_size (l : List UInt8) : (bs l).size = l.length := by simp [bs, ByteArray.size]
theorem size_list (s : ByteArray) : s.size = s.toList.length := by rw [ByteArray.toList_eq]; exact Lib.size_eq s
theorem list_extract (s : ByteArray) (a b : Nat) : (s.extract a b).toList = (s.toList.drop a).take (b - a) := by
 rw [Lib.extract_toList, ByteArray.toList_eq]
theorem list_append (a b : ByteArray) : (a ++ b).toList = a.toList ++ b.toList := by
 rw [ByteArray.toList_eq, ByteArray.toList_eq, ByteArray.toList_eq]
 obtain ⟨⟨l⟩⟩ := a
 obtain ⟨⟨m⟩⟩ := b
 simp
theorem bs_append (a b : List UInt8) : bs a ++ bs b = bs (a ++ b) := by
 rw [← bs_of (bs a ++ bs b), list_append, bs_list, bs_list]
theorem bs_extract (l : List UInt8) (a b : Nat) : (bs l).extract a b = bs ((l.drop a).take (b - a)) := by
 rw [← bs_of ((bs l).extract a b), list_extract, bs_list]
theorem bs_inj {a b : List UInt8} (h : bs a = bs b) : a = b := by rw [← bs_list a, h, bs_list]
theorem bs_eq {s : ByteArray} {l : List UInt8} (h : s.toList = l) : s = bs l := by rw [← h, bs_of]
/-- A letter of a text. -/
theorem at_extract (s : ByteArray) (i : Nat) (h : i < s.size) : (s.extract i (i + 1)).toList = atB s.toList i := by
 rw [list_extract]
 have h1 : i < s.toList.length := by rw [← size_list]; exact h
 unfold atB
 rw [if_pos ⟨by omega, by omega⟩, show i + 1 - i = 1 by omega, List.drop_eq_getElem_cons h1, List.take_succ_cons, List.take_zero, Int.toNat_natCast, List.getD_eq_getElem?_getD, List.getElem?_eq_getElem h1]
 rfl
end Go.Proofs.YtbcoejmiihgfoaaDoor

/-! Programs that may be, plain: why an instruction, a head, a class, a program may not be. -/
namespace Go.Proofs.YtbcoejmiihgfoaaDoor

/-- The letters of a text are all I or R. -/
def lettersB (s : ByteArray) : Bool := (List.range s.size).all fun i => s.get! i == 73 || s.get! i == 82

theorem lettersB_true {s : ByteArray} : lettersB s = true ↔ ∀ i, i < s.size → s.get! i = 73 ∨ s.get! i = 82 := by
 simp [lettersB]

theorem byte_ne (fs : ByteArray) (j : Nat) (c : UInt8) (h : j < fs.size) : ((((fs[j]'h).toNat : Nat) : Int) != ((c.toNat : Nat) : Int)) = !decide (fs.get! j = c) := by
 rw [← byte_eq fs j c h]; rfl

def UA (op : Int) : Prop := op = 3 ∨ op = 4 ∨ op = 22 ∨ op = 23 ∨ op = 24 ∨ op = 25 ∨ op = 26 ∨ op = 27 ∨ op = 28 ∨ op = 29 ∨ op = 30 ∨ op = 32
instance (op : Int) : Decidable (UA op) := by unfold UA; infer_instance
def UB (op : Int) : Prop := op = 25 ∨ op = 26
instance (op : Int) : Decidable (UB op) := by unfold UB; infer_instance

/-- Why an instruction may not be; 0: it may. -/
def insCode (cs : List ByteArray) (nm : Nat) (m : Meth) (x : Ins) : Int :=
 if x.op < 1 ∨ 35 < x.op then 102
 else if (x.op = 3 ∨ x.op = 4) ∧ (x.a < 0 ∨ (m.params.size : Int) + m.locals.size ≤ x.a) then 103
 else if (x.op = 24 ∨ x.op = 25 ∨ x.op = 26 ∨ x.op = 27) ∧ (x.a < 0 ∨ (cs.length : Int) ≤ x.a ∨ UB x.op ∧ (x.b < 0 ∨ ((cs.getD x.a.toNat ByteArray.empty).size : Int) ≤ x.b)) then 103
 else if (x.op = 28 ∨ x.op = 29 ∨ x.op = 30) ∧ x.a ≠ 0 ∧ x.a ≠ 1 then 103
 else if x.op = 32 ∧ (x.a < 1 ∨ (nm : Int) ≤ x.a) then 103
 else if (x.op = 22 ∨ x.op = 23) ∧ (x.a < 0 ∨ (m.code.length : Int) ≤ x.a) then 104
 else if ¬ UA x.op ∧ x.a ≠ 0 ∨ ¬ UB x.op ∧ x.b ≠ 0 ∨ x.op ≠ 1 ∧ x.n ≠ 0 then 103
 else 0

theorem ret_int3 {a b : Int} (h : b = a) : Ending.returned (.int .i64 a) = .returned (.int .i64 b) := by rw [h]

/-- Why a class may not be. -/
def clsCode (c : ByteArray) : Int := if 10 < c.size then 101 else if lettersB c then 0 else 102
def retOk (s : ByteArray) : Prop := s.toList = [] ∨ s.toList = [73] ∨ s.toList = [82]
instance (s : ByteArray) : Decidable (retOk s) := by unfold retOk; infer_instance
/-- Why a method's head may not be. -/
def headCode (k : Nat) (m : Meth) : Int :=
 if 12 < m.params.size ∨ (12 : Int) - m.params.size < m.locals.size ∨ m.code.length < 1 ∨ 120 < m.code.length then 101
 else if ¬ lettersB m.params = true ∨ ¬ lettersB m.locals = true ∨ ¬ retOk m.ret ∨ k = 0 ∧ (m.params.toList ≠ [] ∨ m.ret.toList = [82]) then 102 else 0

/-- What May tells of a program: the code and the place. -/
def MayIs (p : Prg) (c : Int) (at_ : List Int) : Prop :=
 ((12 < p.cs.length ∨ p.ms.length < 1 ∨ 12 < p.ms.length) ∧ c = 101 ∧ at_ = []) ∨
 ((p.cs.length ≤ 12 ∧ 1 ≤ p.ms.length ∧ p.ms.length ≤ 12) ∧
  ((∃ i : Nat, i < p.cs.length ∧ (∀ j, j < i → clsCode (p.cs.getD j ByteArray.empty) = 0) ∧ clsCode (p.cs.getD i ByteArray.empty) = c ∧ c ≠ 0 ∧ at_ = [(i : Int), -1]) ∨
   ((∀ j, j < p.cs.length → clsCode (p.cs.getD j ByteArray.empty) = 0) ∧
   ((∃ k : Nat, k < p.ms.length ∧ (∀ j, j < k → headCode j (p.ms.getD j default) = 0 ∧ ∀ q, q < (p.ms.getD j default).code.length → insCode p.cs p.ms.length (p.ms.getD j default) ((p.ms.getD j default).code.getD q default) = 0) ∧
     ((headCode k (p.ms.getD k default) = c ∧ c ≠ 0 ∧ at_ = [(k : Int), -1]) ∨
      (headCode k (p.ms.getD k default) = 0 ∧ ∃ pc : Nat, pc < (p.ms.getD k default).code.length ∧ (∀ q, q < pc → insCode p.cs p.ms.length (p.ms.getD k default) ((p.ms.getD k default).code.getD q default) = 0) ∧
       insCode p.cs p.ms.length (p.ms.getD k default) ((p.ms.getD k default).code.getD pc default) = c ∧ c ≠ 0 ∧ at_ = [(k : Int), (pc : Int)]))) ∨
    ((∀ j, j < p.ms.length → headCode j (p.ms.getD j default) = 0 ∧ ∀ q, q < (p.ms.getD j default).code.length → insCode p.cs p.ms.length (p.ms.getD j default) ((p.ms.getD j default).code.getD q default) = 0) ∧ c = 0 ∧ at_ = [])))))

/-- A program that may be. -/
structure Prg.Ok (p : Prg) : Prop where
 few : p.cs.length ≤ 12
 one : 1 ≤ p.ms.length
 many : p.ms.length ≤ 12
 cls : ∀ j, j < p.cs.length → clsCode (p.cs.getD j ByteArray.empty) = 0
 meth : ∀ j, j < p.ms.length → headCode j (p.ms.getD j default) = 0
 ins : ∀ j, j < p.ms.length → ∀ q, q < (p.ms.getD j default).code.length → insCode p.cs p.ms.length (p.ms.getD j default) ((p.ms.getD j default).code.getD q default) = 0

theorem MayIs.ok {p : Prg} {at_ : List Int} (h : MayIs p 0 at_) : p.Ok := by
 rcases h with ⟨_, h, _⟩ | ⟨⟨h1, h2, h3⟩, h | ⟨h4, h | ⟨h5, _, _⟩⟩⟩
 ·cases h
 ·obtain ⟨i, _, _, _, h, _⟩ := h; exact absurd rfl h
 ·obtain ⟨k, _, _, ⟨_, h, _⟩ | ⟨_, pc, _, _, _, h, _⟩⟩ := h
  ·exact absurd rfl h
  ·exact absurd rfl h
 ·exact ⟨h1, h2, h3, h4, fun j hj => (h5 j hj).1, fun j hj => (h5 j hj).2⟩

theorem Prg.Ok.small {p : Prg} (h : p.Ok) : ∀ c ∈ p.cs, c.size ≤ 10 := by
 intro c hc
 obtain ⟨i, hi, rfl⟩ := List.getElem_of_mem hc
 have := h.cls i hi
 rw [List.getD_eq_getElem?_getD, List.getElem?_eq_getElem hi, Option.getD_some] at this
 unfold clsCode at this
 split at this
 ·cases this
 ·omega

/-- .. and then its code is 0. -/
theorem MayIs.zero {p : Prg} {c : Int} {at_ : List Int} (h : MayIs p c at_) (hp : p.Ok) : c = 0 ∧ at_ = [] := by
 rcases h with ⟨h, _, _⟩ | ⟨⟨h1, h2, h3⟩, h | ⟨h4, h | ⟨h5, h6, h7⟩⟩⟩
 ·have := hp.few; have := hp.one; have := hp.many; omega
 ·obtain ⟨i, hi, _, h, h0, _⟩ := h
  exact absurd (h.symm.trans (hp.cls i hi)) h0
 ·obtain ⟨k, hk, _, ⟨h, h0, _⟩ | ⟨_, pc, hpc, _, h, h0, _⟩⟩ := h
  ·exact absurd (h.symm.trans (hp.meth k hk)) h0
  ·exact absurd (h.symm.trans (hp.ins k hk pc hpc)) h0
 ·exact ⟨h6, h7⟩


end Go.Proofs.YtbcoejmiihgfoaaDoor

/-! Letters: what strings.Trim says of a text, plain. -/
namespace Go.Proofs.YtbcoejmiihgfoaaDoor

theorem dropWhile_nil {α : Type} (p : α → Bool) (l : List α) : l.dropWhile p = [] ↔ ∀ x ∈ l, p x = true := by
 induction l with
 | nil => simp
 | cons a t ih =>
  rw [List.dropWhile_cons]
  split
  ·rename_i h; simp [ih, h]
  ·rename_i h; simp [h]
theorem mem_takeW {α : Type} (p : α → Bool) : ∀ (l : List α) (x : α), x ∈ l.takeWhile p → p x = true
 | [], _, h => by simp at h
 | a :: t, x, h => by
  rw [List.takeWhile_cons] at h
  split at h
  ·rename_i ha
   rcases List.mem_cons.1 h with rfl | h2
   ·exact ha
   ·exact mem_takeW p t x h2
  ·simp at h
theorem trim_nil (l cs : List UInt8) : Lib.trimS l cs = [] ↔ ∀ x ∈ l, cs.contains x = true := by
 unfold Lib.trimS Lib.trimLeftS Lib.trimRightS
 rw [dropWhile_nil]
 constructor
 ·intro h x hx
  have h2 : x ∈ l.reverse.takeWhile (cs.contains ·) ++ l.reverse.dropWhile (cs.contains ·) := by rw [List.takeWhile_append_dropWhile]; simpa using hx
  rcases List.mem_append.1 h2 with h3 | h3
  ·exact mem_takeW _ _ _ h3
  ·exact h x (by simpa using h3)
 ·intro h x hx
  have h2 : x ∈ l.reverse.dropWhile (cs.contains ·) := by simpa using hx
  exact h x (by simpa using (List.dropWhile_sublist _).subset h2)
theorem get_list (s : ByteArray) (i : Nat) (h : i < s.size) : s.toList[i]? = some (s.get! i) := by
 rw [ByteArray.toList_eq]
 obtain ⟨⟨l⟩⟩ := s
 have h' : i < l.length := h
 show l[i]? = some ((⟨⟨l⟩⟩ : ByteArray).get! i)
 rw [List.getElem?_eq_getElem h']
 congr 1
 show _ = (⟨l⟩ : Array UInt8)[i]!
 simp [h']
theorem letters_trim (s : ByteArray) : Lib.trimS s.data.toList [73, 82] = [] ↔ lettersB s = true := by
 rw [trim_nil, lettersB_true, ← ByteArray.toList_eq]
 constructor
 ·intro h i hi
  have := h (s.get! i) (List.mem_of_getElem? (get_list s i hi))
  simpa using this
 ·intro h x hx
  obtain ⟨i, hi, rfl⟩ := List.getElem_of_mem hx
  have h1 : i < s.size := by rw [size_list]; exact hi
  have h2 := get_list s i h1
  rw [List.getElem?_eq_getElem hi] at h2
  rw [Option.some.inj h2]
  simpa using h i h1
end Go.Proofs.YtbcoejmiihgfoaaDoor
