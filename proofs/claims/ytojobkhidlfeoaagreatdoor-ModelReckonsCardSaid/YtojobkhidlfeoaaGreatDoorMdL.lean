/- What a program means, plain: slots, objects, frames; a machine's step. No program in sight. -/
import Derived.Test.YtojobkhidlfeoaaGreatDoorVerL2
namespace Go.Proofs.YtojobkhidlfeoaaGreatDoor

/-- A value: an integer, or a reference. -/
structure Vl where
  ref : Bool
  n : Int
deriving Inhabited, DecidableEq
/-- An object: its class, its values. -/
structure Ob where
  cls : Int
  vals : List Vl
deriving Inhabited, DecidableEq
/-- A frame. -/
structure Fm where
  m : Nat
  pc : Nat
  loc : List Vl
  stk : List Vl
deriving Inhabited, DecidableEq
/-- How a run ended. -/
structure Fend where
  kind : Int
  trap : Int
  meth : Int
  pc : Int
  value : Int
deriving Inhabited, DecidableEq
/-- A machine; the frames: the one on top first. -/
structure Mc where
  frs : List Fm
  objs : List Ob
  inp : List Int
  fuel : Nat
  out : List Int
  fin : Option Fend
deriving Inhabited, DecidableEq

def vi (n : Int) : Vl := ⟨false, n⟩
def vr (n : Int) : Vl := ⟨true, n⟩
/-- A slot's beginning. -/
def zeroV (c : UInt8) : Vl := if c = 82 then ⟨true, -1⟩ else ⟨false, 0⟩
/-- The i-th value from the top. -/
def tp (s : List Vl) (i : Nat) : Vl := s.getD (s.length - 1 - i) default
def cutV (s : List Vl) (k : Nat) : List Vl := s.take (s.length - k)
def bit64 (f : BitVec 64 → BitVec 64 → BitVec 64) (a b : Int) : Int := IntKind.i64.wrap (f (BitVec.ofInt 64 a) (BitVec.ofInt 64 b)).toNat
/-- Two integers by an op: the result, the trap. -/
def twoL (op a b : Int) : Int × Int :=
  if op = 8 then (IntKind.i64.wrap (a + b), 0)
  else if op = 9 then (IntKind.i64.wrap (a - b), 0)
  else if op = 10 then (IntKind.i64.wrap (a * b), 0)
  else if op = 11 then (if b = 0 then (0, 5) else (IntKind.i64.wrap (a.tdiv b), 0))
  else if op = 12 then (if b = 0 then (0, 5) else (a.tmod b, 0))
  else if op = 13 then (bit64 (· &&& ·) a b, 0)
  else if op = 14 then (bit64 (· ||| ·) a b, 0)
  else if op = 15 then (bit64 (· ^^^ ·) a b, 0)
  else if op = 16 then (IntKind.i64.wrap (a * 2 ^ (b % 64).toNat), 0)
  else if op = 17 then (a.fdiv (2 ^ (b % 64).toNat), 0)
  else if op = 19 then (if a < b then 1 else 0, 0)
  else if op = 20 then (if a = b then 1 else 0, 0)
  else (0, 0)
/-- The letters of an object's values. -/
def Prg.lets (p : Prg) (c : Int) (n : Nat) : List UInt8 := if 0 ≤ c then (p.cs.getD c.toNat ByteArray.empty).toList else List.replicate n (if c = -2 then 82 else 73)
/-- A new object. -/
def Prg.made (p : Prg) (c : Int) (n : Nat) : Ob := ⟨c, (p.lets c n).map zeroV⟩

/-- What an instruction that goes on behind it does: a trap, or the new locals, stack, objects, inputs, output. -/
inductive Mact where
  | trap (t : Int)
  | go (loc stk : List Vl) (objs : List Ob) (inp out : List Int)

/-- What is done to an object. -/
def Mc.touch (S : Mc) (f : Fm) (x : Ins) : Mact :=
  let s := f.stk
  let put (k : Nat) (l : List Vl) : Mact := .go f.loc (cutV s k ++ l) S.objs S.inp S.out
  let deep : Nat := if x.op = 26 ∨ x.op = 29 then 1 else if x.op = 30 then 2 else 0
  let r := (tp s deep).n
  let o := S.objs.getD r.toNat default
  if x.op = 27 then put 1 [vi (if r ≠ -1 ∧ o.cls = x.a then 1 else 0)]
  else if r = -1 then .trap 1
  else if x.op = 25 then (if o.cls ≠ x.a then .trap 2 else put 1 [o.vals.getD x.b.toNat default])
  else if x.op = 26 then (if o.cls ≠ x.a then .trap 2 else .go f.loc (cutV s 2) (S.objs.set r.toNat ⟨o.cls, o.vals.set x.b.toNat (tp s 0)⟩) S.inp S.out)
  else if x.op = 31 then (if 0 ≤ o.cls then .trap 2 else put 1 [vi o.vals.length])
  else if o.cls ≠ -1 - x.a then .trap 2
  else if (tp s (deep - 1)).n < 0 ∨ (o.vals.length : Int) ≤ (tp s (deep - 1)).n then .trap 3
  else if x.op = 29 then put 2 [o.vals.getD (tp s 0).n.toNat default]
  else .go f.loc (cutV s 3) (S.objs.set r.toNat ⟨o.cls, o.vals.set (tp s 1).n.toNat (tp s 0)⟩) S.inp S.out

def Mc.plain (p : Prg) (S : Mc) (f : Fm) (x : Ins) : Mact :=
  let s := f.stk
  let put (k : Nat) (l : List Vl) : Mact := .go f.loc (cutV s k ++ l) S.objs S.inp S.out
  if x.op = 1 then put 0 [vi x.n]
  else if x.op = 2 then put 0 [vr (-1)]
  else if x.op = 3 then put 0 [f.loc.getD x.a.toNat default]
  else if x.op = 4 then .go (f.loc.set x.a.toNat (tp s 0)) (cutV s 1) S.objs S.inp S.out
  else if x.op = 5 then put 0 [tp s 0]
  else if x.op = 6 then put 1 []
  else if x.op = 7 then put 2 [tp s 0, tp s 1]
  else if x.op = 18 then put 1 [vi (IntKind.i64.wrap (-(tp s 0).n))]
  else if x.op = 21 then put 2 [vi (if (tp s 0).n = (tp s 1).n then 1 else 0)]
  else if x.op = 34 then (match S.inp with
    | [] => .trap 6
    | n :: r => .go f.loc (s ++ [vi n]) S.objs r S.out)
  else if x.op = 35 then .go f.loc (cutV s 1) S.objs S.inp (S.out ++ [(tp s 0).n])
  else if x.op = 24 then .go f.loc (s ++ [vr S.objs.length]) (S.objs ++ [p.made x.a 0]) S.inp S.out
  else if x.op = 28 then (if (tp s 0).n < 0 ∨ 50 < (tp s 0).n then .trap 4 else .go f.loc (cutV s 1 ++ [vr S.objs.length]) (S.objs ++ [p.made (-1 - x.a) (tp s 0).n.toNat]) S.inp S.out)
  else if x.op = 25 ∨ x.op = 26 ∨ x.op = 27 ∨ x.op = 29 ∨ x.op = 30 ∨ x.op = 31 then S.touch f x
  else if (twoL x.op (tp s 1).n (tp s 0).n).2 ≠ 0 then .trap (twoL x.op (tp s 1).n (tp s 0).n).2
  else put 2 [vi (twoL x.op (tp s 1).n (tp s 0).n).1]

def Prg.at_ (p : Prg) (m pc : Nat) : Ins := (p.ms.getD m default).code.getD pc default
def Mc.stop (S : Mc) (kind trap : Int) (f : Fm) : Mc := { S with fin := some ⟨kind, trap, f.m, f.pc, 0⟩ }
def Mc.put (S : Mc) (below : List Fm) (f : Fm) : Mc := { S with frs := f :: below }
/-- A new frame. -/
def Prg.enter (p : Prg) (m : Nat) (args : List Vl) : Fm := ⟨m, 0, args ++ ((kindsL (p.ms.getD m default)).drop args.length).map zeroV, []⟩
/-- A step of the frame on top. -/
def Mc.stepF (p : Prg) (S : Mc) (below : List Fm) (f : Fm) : Mc :=
  let x := p.at_ f.m f.pc
  let s := f.stk
  if x.op = 22 ∨ x.op = 23 then
    (if x.op = 23 ∧ (tp s 0).n ≠ 0 then S.put below { f with stk := cutV s 1, pc := f.pc + 1 }
     else if x.a ≤ f.pc ∧ S.fuel = 0 then S.stop 3 0 f
     else { S.put below { f with stk := if x.op = 23 then cutV s 1 else s, pc := x.a.toNat } with fuel := if x.a ≤ f.pc then S.fuel - 1 else S.fuel })
  else if x.op = 32 then
    (if S.fuel = 0 then S.stop 3 0 f
     else
       let k := (p.ms.getD x.a.toNat default).params.size
       { S with frs := p.enter x.a.toNat (s.drop (s.length - k)) :: { f with stk := cutV s k, pc := f.pc + 1 } :: below, fuel := S.fuel - 1 })
  else if x.op = 33 then
    (match below with
     | [] => { S with frs := [], fin := some ⟨1, 0, 0, 0, (s.headD ⟨false, 0⟩).n⟩ }
     | g :: under => S.put under { g with stk := g.stk ++ s })
  else match S.plain p f x with
    | .trap t => S.stop 2 t f
    | .go loc stk objs inp out => { S with frs := ⟨f.m, f.pc + 1, loc, stk⟩ :: below, objs := objs, inp := inp, out := out }
/-- A step. -/
def Mc.step (p : Prg) (S : Mc) : Mc :=
  match S.fin, S.frs with
  | none, f :: below => S.stepF p below f
  | _, _ => S
theorem Mc.step_on {p : Prg} {S : Mc} {below : List Fm} {f : Fm} (h : S.fin = none) (hf : S.frs = f :: below) : S.step p = S.stepF p below f := by
  unfold Mc.step
  rw [h, hf]
theorem Mc.step_end {p : Prg} {S : Mc} (h : S.fin ≠ none) : S.step p = S := by
  unfold Mc.step
  split
  · rename_i h1 _
    exact absurd h1 h
  · rfl
/-- A machine ahead of its first step. -/
def Mc.new (p : Prg) (inp : List Int) (fuel : Nat) : Mc := ⟨[p.enter 0 []], [], inp, fuel, [], none⟩
def Mc.steps (p : Prg) : Nat → Mc → Mc
  | 0, S => S
  | k + 1, S => Mc.steps p k (S.step p)

end Go.Proofs.YtojobkhidlfeoaaGreatDoor
