/- What is on the stack, plain: an instruction's effect, the stack behind it, the look at a method. -/
import Derived.Test.YtpmfbhoochogoaaDoorNextL
namespace Go.Proofs.YtpmfbhoochogoaaDoor

/-- The letters I, R. -/
def lI : UInt8 := 73
def lR : UInt8 := 82
def atB (s : List UInt8) (i : Int) : List UInt8 := if 0 ≤ i ∧ i < (s.length : Int) then [s.getD i.toNat 0] else []
def kindsL (m : Meth) : List UInt8 := m.params.toList ++ m.locals.toList
def fieldL (cs : List ByteArray) (a b : Int) : List UInt8 := if 0 ≤ a ∧ a < (cs.length : Int) then atB (cs.getD a.toNat ByteArray.empty).toList b else []
/-- What an instruction takes off and lays on; none: by the stack. -/
def effL (p : Prg) (m : Meth) (x : Ins) : Option (List UInt8 × List UInt8) :=
  if 8 ≤ x.op ∧ x.op ≤ 20 ∧ x.op ≠ 18 then some ([lI, lI], [lI])
  else if x.op = 1 ∨ x.op = 34 then some ([], [lI])
  else if x.op = 2 ∨ x.op = 24 then some ([], [lR])
  else if x.op = 3 then some ([], atB (kindsL m) x.a)
  else if x.op = 4 then some (atB (kindsL m) x.a, [])
  else if x.op = 18 then some ([lI], [lI])
  else if x.op = 21 then some ([lR, lR], [lI])
  else if x.op = 22 then some ([], [])
  else if x.op = 23 ∨ x.op = 35 then some ([lI], [])
  else if x.op = 25 then some ([lR], fieldL p.cs x.a x.b)
  else if x.op = 26 then some (lR :: fieldL p.cs x.a x.b, [])
  else if x.op = 27 ∨ x.op = 31 then some ([lR], [lI])
  else if x.op = 28 then some ([lI], [lR])
  else if x.op = 29 then some ([lR, lI], atB [lI, lR] x.a)
  else if x.op = 30 then some ([lR, lI] ++ atB [lI, lR] x.a, [])
  else if x.op = 32 then (if 0 ≤ x.a ∧ x.a < (p.ms.length : Int) then some ((p.ms.getD x.a.toNat default).params.toList, (p.ms.getD x.a.toNat default).ret.toList) else some ([], []))
  else if x.op = 33 then some (m.ret.toList, [])
  else none
/-- The stack behind an instruction, or the fault's code. -/
def behL (p : Prg) (m : Meth) (x : Ins) (s : List UInt8) : Except Int (List UInt8) :=
  let out (t : List UInt8) : Except Int (List UInt8) := if 12 < t.length ∨ x.op = 33 ∧ t ≠ [] then .error 108 else .ok t
  if x.op = 5 then (if s.length < 1 then .error 108 else out (s ++ s.drop (s.length - 1)))
  else if x.op = 6 then (if s.length < 1 then .error 108 else out (s.take (s.length - 1)))
  else if x.op = 7 then (if s.length < 2 then .error 108 else out (s.take (s.length - 2) ++ s.drop (s.length - 1) ++ (s.take (s.length - 1)).drop (s.length - 2)))
  else match effL p m x with
    | some (pop, push) => if s.length < pop.length then .error 108 else if s.drop (s.length - pop.length) ≠ pop then .error 102 else out (s.take (s.length - pop.length) ++ push)
    | none => out s

/-- The look at a method, in its midst. -/
structure Lk where
  seen : List Bool
  stk : List (List UInt8)
  done : List Bool
  most : Nat
def Lk.init (n : Nat) : Lk := ⟨(List.replicate n false).set 0 true, List.replicate n [], List.replicate n false, 0⟩
/-- The first place that is seen and not done. -/
def Lk.pick (s : Lk) (n : Nat) : Nat := ((List.range n).find? fun i => s.seen.getD i false && !s.done.getD i false).getD n
/-- A place is led to. -/
def Lk.to (n : Nat) (s : Lk) (k : Int) (t : List UInt8) : Except Int Lk :=
  if (n : Int) ≤ k then .error 110
  else if s.seen.getD k.toNat false = false then .ok { s with seen := s.seen.set k.toNat true, stk := s.stk.set k.toNat t }
  else if s.stk.getD k.toNat [] ≠ t then .error 109 else .ok s
def Lk.step (p : Prg) (m : Meth) (s : Lk) : Except (Int × Nat) Lk :=
  let n := m.code.length
  let pc := s.pick n
  match behL p m (m.code.getD pc default) (s.stk.getD pc []) with
  | .error e => .error (e, pc)
  | .ok t => match (nextL m.code pc).foldlM (fun s k => Lk.to n s k t) { s with done := s.done.set pc true, most := max s.most (max (s.stk.getD pc []).length t.length) } with
    | .error e => .error (e, pc)
    | .ok s' => .ok s'
/-- So many rounds. -/
def Lk.run (p : Prg) (m : Meth) : Nat → Except (Int × Nat) Lk
  | 0 => .ok (Lk.init m.code.length)
  | i + 1 => match Lk.run p m i with
    | .error e => .error e
    | .ok s => if s.pick m.code.length = m.code.length then .ok s else s.step p m
/-- The look: as many rounds as there are instructions are enough. -/
def lookM (p : Prg) (m : Meth) : Except (Int × Nat) Lk := Lk.run p m (m.code.length + 1)

end Go.Proofs.YtpmfbhoochogoaaDoor
