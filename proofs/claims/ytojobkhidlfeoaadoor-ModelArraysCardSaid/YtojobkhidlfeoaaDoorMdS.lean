/- What a program means, plain: slots, objects, frames; a machine's step. No program in sight. What a program means, plain: a verified program's machine is well formed, whatever it does. What a program means, plain: each step of a verified program's machine keeps it well formed, and brings it nearer to its end. What a program means, plain: whole runs; more fuel, more inputs; where a run may end. What a program means, plain: no stack of a verified program is long. What a program means, plain: programs whose verification is reckoned; two integers by an op. What a program means, plain: where a run may end, and why; inputs behind those that were asked for. -/
import Derived.Test.YtojobkhidlfeoaaDoorVerL5
/-! What a program means, plain: slots, objects, frames; a machine's step. No program in sight. -/
namespace Go.Proofs.YtojobkhidlfeoaaDoor

/-- A value: an integer, or a reference. -/
structure Vl where
 ref : Bool
 n : Int
deriving Inhabited, DecidableEq
/-- An object: its class, its values. -/
structure Ob where
 cls : Int
 vals : List Vl
deriving Inhabited, DecidableEq
/-- A frame. -/
structure Fm where
 m : Nat
 pc : Nat
 loc : List Vl
 stk : List Vl
deriving Inhabited, DecidableEq
/-- How a run ended. -/
structure Fend where
 kind : Int
 trap : Int
 meth : Int
 pc : Int
 value : Int
deriving Inhabited, DecidableEq
/-- A machine; the frames: the one on top first. -/
structure Mc where
 frs : List Fm
 objs : List Ob
 inp : List Int
 fuel : Nat
 out : List Int
 fin : Option Fend
deriving Inhabited, DecidableEq

def vi (n : Int) : Vl := ⟨false, n⟩
def vr (n : Int) : Vl := ⟨true, n⟩
/-- A slot's beginning. -/
def zeroV (c : UInt8) : Vl := if c = 82 then ⟨true, -1⟩ else ⟨false, 0⟩
/-- The i-th value from the top. -/
def tp (s : List Vl) (i : Nat) : Vl := s.getD (s.length - 1 - i) default
def cutV (s : List Vl) (k : Nat) : List Vl := s.take (s.length - k)
def bit64 (f : BitVec 64 → BitVec 64 → BitVec 64) (a b : Int) : Int := IntKind.i64.wrap (f (BitVec.ofInt 64 a) (BitVec.ofInt 64 b)).toNat
/-- Two integers by an op: the result, the trap. -/
def twoL (op a b : Int) : Int × Int :=
 if op = 8 then (IntKind.i64.wrap (a + b), 0)
 else if op = 9 then (IntKind.i64.wrap (a - b), 0)
 else if op = 10 then (IntKind.i64.wrap (a * b), 0)
 else if op = 11 then (if b = 0 then (0, 5) else (IntKind.i64.wrap (a.tdiv b), 0))
 else if op = 12 then (if b = 0 then (0, 5) else (a.tmod b, 0))
 else if op = 13 then (bit64 (· &&& ·) a b, 0)
 else if op = 14 then (bit64 (· ||| ·) a b, 0)
 else if op = 15 then (bit64 (· ^^^ ·) a b, 0)
 else if op = 16 then (IntKind.i64.wrap (a * 2 ^ (b % 64).toNat), 0)
 else if op = 17 then (a.fdiv (2 ^ (b % 64).toNat), 0)
 else if op = 19 then (if a < b then 1 else 0, 0)
 else if op = 20 then (if a = b then 1 else 0, 0)
 else (0, 0)
/-- The letters of an object's values. -/
def Prg.lets (p : Prg) (c : Int) (n : Nat) : List UInt8 := if 0 ≤ c then (p.cs.getD c.toNat ByteArray.empty).toList else List.replicate n (if c = -2 then 82 else 73)
/-- A new object. -/
def Prg.made (p : Prg) (c : Int) (n : Nat) : Ob := ⟨c, (p.lets c n).map zeroV⟩

/-- What an instruction that goes on behind it does: a trap, or the new locals, stack, objects, inputs, output. -/
inductive Mact where
 | trap (t : Int)
 | go (loc stk : List Vl) (objs : List Ob) (inp out : List Int)

/-- What is done to an object. -/
def Mc.touch (S : Mc) (f : Fm) (x : Ins) : Mact :=
 let s := f.stk
 let put (k : Nat) (l : List Vl) : Mact := .go f.loc (cutV s k ++ l) S.objs S.inp S.out
 let deep : Nat := if x.op = 26 ∨ x.op = 29 then 1 else if x.op = 30 then 2 else 0
 let r := (tp s deep).n
 let o := S.objs.getD r.toNat default
 if x.op = 27 then put 1 [vi (if r ≠ -1 ∧ o.cls = x.a then 1 else 0)]
 else if r = -1 then .trap 1
 else if x.op = 25 then (if o.cls ≠ x.a then .trap 2 else put 1 [o.vals.getD x.b.toNat default])
 else if x.op = 26 then (if o.cls ≠ x.a then .trap 2 else .go f.loc (cutV s 2) (S.objs.set r.toNat ⟨o.cls, o.vals.set x.b.toNat (tp s 0)⟩) S.inp S.out)
 else if x.op = 31 then (if 0 ≤ o.cls then .trap 2 else put 1 [vi o.vals.length])
 else if o.cls ≠ -1 - x.a then .trap 2
 else if (tp s (deep - 1)).n < 0 ∨ (o.vals.length : Int) ≤ (tp s (deep - 1)).n then .trap 3
 else if x.op = 29 then put 2 [o.vals.getD (tp s 0).n.toNat default]
 else .go f.loc (cutV s 3) (S.objs.set r.toNat ⟨o.cls, o.vals.set (tp s 1).n.toNat (tp s 0)⟩) S.inp S.out

def Mc.plain (p : Prg) (S : Mc) (f : Fm) (x : Ins) : Mact :=
 let s := f.stk
 let put (k : Nat) (l : List Vl) : Mact := .go f.loc (cutV s k ++ l) S.objs S.inp S.out
 if x.op = 1 then put 0 [vi x.n]
 else if x.op = 2 then put 0 [vr (-1)]
 else if x.op = 3 then put 0 [f.loc.getD x.a.toNat default]
 else if x.op = 4 then .go (f.loc.set x.a.toNat (tp s 0)) (cutV s 1) S.objs S.inp S.out
 else if x.op = 5 then put 0 [tp s 0]
 else if x.op = 6 then put 1 []
 else if x.op = 7 then put 2 [tp s 0, tp s 1]
 else if x.op = 18 then put 1 [vi (IntKind.i64.wrap (-(tp s 0).n))]
 else if x.op = 21 then put 2 [vi (if (tp s 0).n = (tp s 1).n then 1 else 0)]
 else if x.op = 34 then (match S.inp with
  | [] => .trap 6
  | n :: r => .go f.loc (s ++ [vi n]) S.objs r S.out)
 else if x.op = 35 then .go f.loc (cutV s 1) S.objs S.inp (S.out ++ [(tp s 0).n])
 else if x.op = 24 then .go f.loc (s ++ [vr S.objs.length]) (S.objs ++ [p.made x.a 0]) S.inp S.out
 else if x.op = 28 then (if (tp s 0).n < 0 ∨ 50 < (tp s 0).n then .trap 4 else .go f.loc (cutV s 1 ++ [vr S.objs.length]) (S.objs ++ [p.made (-1 - x.a) (tp s 0).n.toNat]) S.inp S.out)
 else if x.op = 25 ∨ x.op = 26 ∨ x.op = 27 ∨ x.op = 29 ∨ x.op = 30 ∨ x.op = 31 then S.touch f x
 else if (twoL x.op (tp s 1).n (tp s 0).n).2 ≠ 0 then .trap (twoL x.op (tp s 1).n (tp s 0).n).2
 else put 2 [vi (twoL x.op (tp s 1).n (tp s 0).n).1]

def Prg.at_ (p : Prg) (m pc : Nat) : Ins := (p.ms.getD m default).code.getD pc default
def Mc.stop (S : Mc) (kind trap : Int) (f : Fm) : Mc := { S with fin := some ⟨kind, trap, f.m, f.pc, 0⟩ }
def Mc.put (S : Mc) (below : List Fm) (f : Fm) : Mc := { S with frs := f :: below }
/-- A new frame. -/
def Prg.enter (p : Prg) (m : Nat) (args : List Vl) : Fm := ⟨m, 0, args ++ ((kindsL (p.ms.getD m default)).drop args.length).map zeroV, []⟩
/-- A step of the frame on top. -/
def Mc.stepF (p : Prg) (S : Mc) (below : List Fm) (f : Fm) : Mc :=
 let x := p.at_ f.m f.pc
 let s := f.stk
 if x.op = 22 ∨ x.op = 23 then
  (if x.op = 23 ∧ (tp s 0).n ≠ 0 then S.put below { f with stk := cutV s 1, pc := f.pc + 1 }
   else if x.a ≤ f.pc ∧ S.fuel = 0 then S.stop 3 0 f
   else { S.put below { f with stk := if x.op = 23 then cutV s 1 else s, pc := x.a.toNat } with fuel := if x.a ≤ f.pc then S.fuel - 1 else S.fuel })
 else if x.op = 32 then
  (if S.fuel = 0 then S.stop 3 0 f
   else
    let k := (p.ms.getD x.a.toNat default).params.size
    { S with frs := p.enter x.a.toNat (s.drop (s.length - k)) :: { f with stk := cutV s k, pc := f.pc + 1 } :: below, fuel := S.fuel - 1 })
 else if x.op = 33 then
  (match below with
   | [] => { S with frs := [], fin := some ⟨1, 0, 0, 0, (s.headD ⟨false, 0⟩).n⟩ }
   | g :: under => S.put under { g with stk := g.stk ++ s })
 else match S.plain p f x with
  | .trap t => S.stop 2 t f
  | .go loc stk objs inp out => { S with frs := ⟨f.m, f.pc + 1, loc, stk⟩ :: below, objs := objs, inp := inp, out := out }
/-- A step. -/
def Mc.step (p : Prg) (S : Mc) : Mc :=
 match S.fin, S.frs with
 | none, f :: below => S.stepF p below f
 | _, _ => S
theorem Mc.step_on {p : Prg} {S : Mc} {below : List Fm} {f : Fm} (h : S.fin = none) (hf : S.frs = f :: below) : S.step p = S.stepF p below f := by
 unfold Mc.step
 rw [h, hf]
theorem Mc.step_end {p : Prg} {S : Mc} (h : S.fin ≠ none) : S.step p = S := by
 unfold Mc.step
 split
 ·rename_i h1 _
  exact absurd h1 h
 ·rfl
/-- A machine ahead of its first step. -/
def Mc.new (p : Prg) (inp : List Int) (fuel : Nat) : Mc := ⟨[p.enter 0 []], [], inp, fuel, [], none⟩
def Mc.steps (p : Prg) : Nat → Mc → Mc
 | 0, S => S
 | k + 1, S => Mc.steps p k (S.step p)

end Go.Proofs.YtojobkhidlfeoaaDoor

/-! What a program means, plain: a verified program's machine is well formed, whatever it does. -/
namespace Go.Proofs.YtojobkhidlfeoaaDoor

/-- What the verifier knows of each method. -/
structure Looks (p : Prg) (ss : List Lk) : Prop where
 len : ss.length = p.ms.length
 look : ∀ j, j < p.ms.length → lookM p (p.ms.getD j default) = .ok (ss.getD j default)

def kd (v : Vl) : UInt8 := if v.ref then 82 else 73
def kds (l : List Vl) : List UInt8 := l.map kd
def in64 (n : Int) : Prop := -9223372036854775808 ≤ n ∧ n ≤ 9223372036854775807
/-- A value that may be. -/
def Vl.Ok (n : Nat) (v : Vl) : Prop := (v.ref = true → -1 ≤ v.n ∧ v.n < n) ∧ in64 v.n
structure Ob.Ok (p : Prg) (n : Nat) (o : Ob) : Prop where
 lo : -2 ≤ o.cls
 hi : o.cls < p.cs.length
 kinds : kds o.vals = p.lets o.cls o.vals.length
 len : o.vals.length ≤ 50
 vals : ∀ v ∈ o.vals, v.Ok n
structure Fm.Ok (p : Prg) (ss : List Lk) (n : Nat) (f : Fm) (t : List UInt8) : Prop where
 m : f.m < p.ms.length
 pc : f.pc < (p.ms.getD f.m default).code.length
 seen : (ss.getD f.m default).seen.getD f.pc false = true
 stk : (ss.getD f.m default).stk.getD f.pc [] = t
 loc : kds f.loc = kindsL (p.ms.getD f.m default)
 lv : ∀ v ∈ f.loc, v.Ok n
 sv : ∀ v ∈ f.stk, v.Ok n
/-- The frames below one of a method. -/
def Under (p : Prg) (ss : List Lk) (n : Nat) : List Fm → Nat → Prop
 | [], _ => True
 | g :: below, m => g.Ok p ss n (kds g.stk ++ (p.ms.getD m default).ret.toList) ∧ Under p ss n below g.m
/-- What is left to be done, at most. -/
def Fm.mu (p : Prg) (f : Fm) : Nat := (p.ms.getD f.m default).code.length + 1 - f.pc
def Mc.mu (p : Prg) (S : Mc) : Nat := 123 * S.fuel + (S.frs.map (Fm.mu p)).sum
structure Mc.Ok (p : Prg) (ss : List Lk) (S : Mc) : Prop where
 top : ∀ f below, S.frs = f :: below → f.Ok p ss S.objs.length (kds f.stk) ∧ Under p ss S.objs.length below f.m
 live : S.fin = none → S.frs ≠ []
 objs : ∀ o ∈ S.objs, o.Ok p S.objs.length
 inp : ∀ x ∈ S.inp, in64 x
 out : ∀ x ∈ S.out, in64 x
 fuel : S.fuel ≤ 2000
 room : S.objs.length + S.out.length + S.frs.length + S.mu p ≤ 300000

theorem Vl.Ok.mono {n n' : Nat} {v : Vl} (h : v.Ok n) (hn : n ≤ n') : v.Ok n' := ⟨fun hr => ⟨(h.1 hr).1, by have := (h.1 hr).2; omega⟩, h.2⟩
theorem Ob.Ok.mono {p : Prg} {n n' : Nat} {o : Ob} (h : o.Ok p n) (hn : n ≤ n') : o.Ok p n' := ⟨h.lo, h.hi, h.kinds, h.len, fun v hv => (h.vals v hv).mono hn⟩
theorem Fm.Ok.mono {p : Prg} {ss : List Lk} {n n' : Nat} {f : Fm} {t : List UInt8} (h : f.Ok p ss n t) (hn : n ≤ n') : f.Ok p ss n' t := ⟨h.m, h.pc, h.seen, h.stk, h.loc, fun v hv => (h.lv v hv).mono hn, fun v hv => (h.sv v hv).mono hn⟩
theorem Under.mono {p : Prg} {ss : List Lk} {n n' : Nat} (hn : n ≤ n') : ∀ {fs : List Fm} {m : Nat}, Under p ss n fs m → Under p ss n' fs m
 | [], _, _ => trivial
 | _ :: _, _, h => ⟨h.1.mono hn, Under.mono hn h.2⟩
theorem kds_len (l : List Vl) : (kds l).length = l.length := by simp [kds]
theorem kds_app (a b : List Vl) : kds (a ++ b) = kds a ++ kds b := by simp [kds]
theorem kds_cut (l : List Vl) (k : Nat) : kds (cutV l k) = (kds l).take (l.length - k) := by simp [kds, cutV, List.map_take]
theorem kds_set {l : List Vl} {i : Nat} {v : Vl} (h : i < l.length → kd v = (kds l).getD i 0) : kds (l.set i v) = kds l := by
 apply List.ext_getElem
 ·simp [kds]
 ·intro j h1 h2
  simp only [kds, List.getElem_map, List.getElem_set]
  split
  ·rename_i e
   subst e
   have h3 : i < l.length := by simpa [kds] using h2
   rw [h h3]
   simp [kds, List.getD_eq_getElem?_getD, List.getElem?_map, List.getElem?_eq_getElem h3]
  ·rfl
theorem kd_getD {l : List Vl} {i : Nat} (h : i < l.length) : kd (l.getD i default) = (kds l).getD i 0 := by
 simp [kds, List.getD_eq_getElem?_getD, List.getElem?_map, List.getElem?_eq_getElem h]
/-- The kinds on top. -/
theorem tp_kd {l : List Vl} {pop : List UInt8} {i : Nat} (h : (kds l).drop (l.length - pop.length) = pop) (hl : pop.length ≤ l.length) (hi : i < pop.length) : kd (tp l i) = pop.getD (pop.length - 1 - i) 0 := by
 unfold tp
 rw [kd_getD (by omega)]
 have h2 : pop.getD (pop.length - 1 - i) 0 = ((kds l).drop (l.length - pop.length)).getD (pop.length - 1 - i) 0 := by rw [h]
 rw [h2, List.getD_eq_getElem?_getD, List.getD_eq_getElem?_getD, List.getElem?_drop]
 congr 2
 omega
theorem tp_mem {l : List Vl} {i : Nat} (h : i < l.length) : tp l i ∈ l := by
 unfold tp
 rw [List.getD_eq_getElem?_getD, List.getElem?_eq_getElem (by omega)]
 exact List.getElem_mem _
theorem getD_mem {α : Type} [Inhabited α] {l : List α} {i : Nat} (h : i < l.length) : l.getD i default ∈ l := by
 rw [List.getD_eq_getElem?_getD, List.getElem?_eq_getElem h]
 exact List.getElem_mem _
theorem cut_mem {l : List Vl} {k : Nat} {v : Vl} (h : v ∈ cutV l k) : v ∈ l := List.mem_of_mem_take h
theorem kd_I {v : Vl} (h : kd v = 73) : v.ref = false := by
 unfold kd at h
 cases hv : v.ref
 ·rfl
 ·rw [hv] at h; simp at h
theorem kd_R {v : Vl} (h : kd v = 82) : v.ref = true := by
 unfold kd at h
 cases hv : v.ref
 ·rw [hv] at h; simp at h
 ·rfl
theorem wrap_in (x : Int) : in64 (IntKind.i64.wrap x) := by
 rw [IntKind.wrap_i64]
 unfold in64
 omega
theorem kd_vi (n : Int) : kd (vi n) = 73 := rfl
theorem kd_vr (n : Int) : kd (vr n) = 82 := rfl
theorem kd_zero {c : UInt8} (h : c = 73 ∨ c = 82) : kd (zeroV c) = c := by
 rcases h with rfl | rfl <;> rfl
theorem kds_zero {l : List UInt8} (h : ∀ c ∈ l, c = 73 ∨ c = 82) : kds (l.map zeroV) = l := by
 unfold kds
 rw [List.map_map]
 conv => rhs; rw [← List.map_id l]
 exact List.map_congr_left fun c hc => kd_zero (h c hc)
theorem zero_ok (n : Nat) (c : UInt8) : (zeroV c).Ok n := by
 unfold zeroV
 split
 ·exact And.intro (fun _ => ⟨Int.le_refl _, by show (-1 : Int) < _; omega⟩) (by unfold in64; decide)
 ·exact And.intro (fun h => by cases h) (by unfold in64; decide)

/-- What insCode says of an instruction that may be. -/
structure InsOk (cs : List ByteArray) (nm : Nat) (m : Meth) (x : Ins) : Prop where
 op : 1 ≤ x.op ∧ x.op ≤ 35
 loc : x.op = 3 ∨ x.op = 4 → 0 ≤ x.a ∧ x.a < (kindsL m).length
 cls : x.op = 24 ∨ x.op = 25 ∨ x.op = 26 ∨ x.op = 27 → 0 ≤ x.a ∧ x.a < cs.length
 fld : x.op = 25 ∨ x.op = 26 → 0 ≤ x.b ∧ x.b < (cs.getD x.a.toNat ByteArray.empty).size
 arr : x.op = 28 ∨ x.op = 29 ∨ x.op = 30 → x.a = 0 ∨ x.a = 1
 call : x.op = 32 → 1 ≤ x.a ∧ x.a < nm
 jmp : x.op = 22 ∨ x.op = 23 → 0 ≤ x.a ∧ x.a < m.code.length
theorem kindsL_len (m : Meth) : (kindsL m).length = m.params.size + m.locals.size := by
 unfold kindsL
 rw [List.length_append, ← size_list, ← size_list]
theorem insOk {cs : List ByteArray} {nm : Nat} {m : Meth} {x : Ins} (h : insCode cs nm m x = 0) : InsOk cs nm m x := by
 unfold insCode at h
 by_cases h1 : x.op < 1 ∨ 35 < x.op
 ·rw [if_pos h1] at h; cases h
 rw [if_neg h1] at h
 by_cases h2 : (x.op = 3 ∨ x.op = 4) ∧ (x.a < 0 ∨ (m.params.size : Int) + m.locals.size ≤ x.a)
 ·rw [if_pos h2] at h; cases h
 rw [if_neg h2] at h
 by_cases h3 : (x.op = 24 ∨ x.op = 25 ∨ x.op = 26 ∨ x.op = 27) ∧ (x.a < 0 ∨ (cs.length : Int) ≤ x.a ∨ UB x.op ∧ (x.b < 0 ∨ ((cs.getD x.a.toNat ByteArray.empty).size : Int) ≤ x.b))
 ·rw [if_pos h3] at h; cases h
 rw [if_neg h3] at h
 by_cases h4 : (x.op = 28 ∨ x.op = 29 ∨ x.op = 30) ∧ x.a ≠ 0 ∧ x.a ≠ 1
 ·rw [if_pos h4] at h; cases h
 rw [if_neg h4] at h
 by_cases h5 : x.op = 32 ∧ (x.a < 1 ∨ (nm : Int) ≤ x.a)
 ·rw [if_pos h5] at h; cases h
 rw [if_neg h5] at h
 by_cases h6 : (x.op = 22 ∨ x.op = 23) ∧ (x.a < 0 ∨ (m.code.length : Int) ≤ x.a)
 ·rw [if_pos h6] at h; cases h
 clear h
 have hk := kindsL_len m
 unfold UB at h3
 refine ⟨by omega, fun e => ?_, fun e => ?_, fun e => ?_, fun e => ?_, fun e => ?_, fun e => ?_⟩
 ·rw [hk]; omega
 ·omega
 ·have : x.a ≥ 0 := by omega
  omega
 ·omega
 ·omega
 ·omega

/-- What an action leaves is well formed. -/
def Mact.Ok (p : Prg) (S : Mc) (kl t : List UInt8) : Mact → Prop
 | .trap _ => True
 | .go loc stk objs inp out => kds loc = kl ∧ kds stk = t ∧ (∀ v ∈ loc, v.Ok objs.length) ∧ (∀ v ∈ stk, v.Ok objs.length) ∧ (∀ o ∈ objs, o.Ok p objs.length) ∧ S.objs.length ≤ objs.length ∧ objs.length + out.length ≤ S.objs.length + S.out.length + 1 ∧ (∀ x ∈ inp, in64 x) ∧ (∀ x ∈ out, in64 x)

/-- A frame on top, and what the verifier says of its instruction. -/
structure At (p : Prg) (ss : List Lk) (S : Mc) (f : Fm) (x : Ins) (t : List UInt8) : Prop where
 fr : f.Ok p ss S.objs.length (kds f.stk)
 ok : S.Ok p ss
 xe : x = p.at_ f.m f.pc
 beh : behL p (p.ms.getD f.m default) x (kds f.stk) = .ok t
 next : ∀ k ∈ nextL (p.ms.getD f.m default).code f.pc, k < (p.ms.getD f.m default).code.length ∧ (ss.getD f.m default).seen.getD k.toNat false = true ∧ (ss.getD f.m default).stk.getD k.toNat [] = t
 ins : InsOk p.cs p.ms.length (p.ms.getD f.m default) x
 bd : x.bd
/-- The program's integers are integers. -/
def Prg.Bd (p : Prg) : Prop := ∀ m pc, (p.at_ m pc).bd
theorem Mc.Ok.at_ {p : Prg} {ss : List Lk} {S : Mc} {f : Fm} {below : List Fm} (h : S.Ok p ss) (hp : p.Ok) (hl : Looks p ss) (hb : p.Bd) (hf : S.frs = f :: below) : ∃ t, At p ss S f (p.at_ f.m f.pc) t := by
 have hfr := (h.top f below hf).1
 have hg := look_good (by have := hfr.pc; omega) (hl.look f.m hfr.m)
 obtain ⟨t, h1, _, _, h4⟩ := hg.1.all f.pc (hg.2.2 f.pc hfr.seen)
 rw [hfr.stk] at h1
 exact ⟨t, hfr, h, rfl, h1, h4, insOk (hp.ins f.m hfr.m f.pc hfr.pc), hb _ _⟩
/-- What is popped lies on top; what is pushed lies there then. -/
theorem At.eff {p : Prg} {ss : List Lk} {S : Mc} {f : Fm} {x : Ins} {t pop push : List UInt8} (h : At p ss S f x t) (h5 : x.op ≠ 5) (h6 : x.op ≠ 6) (h7 : x.op ≠ 7) (he : effL p (p.ms.getD f.m default) x = some (pop, push)) :
  pop.length ≤ f.stk.length ∧ (∀ i, i < pop.length → kd (tp f.stk i) = pop.getD (pop.length - 1 - i) 0) ∧ t = (kds f.stk).take (f.stk.length - pop.length) ++ push := by
 have h1 := behL_eff h.beh h5 h6 h7 he
 rw [kds_len] at h1
 exact ⟨h1.1, fun i hi => tp_kd h1.2.1 h1.1 hi, h1.2.2⟩
/-- A value that lies on top may be. -/
theorem At.tv {p : Prg} {ss : List Lk} {S : Mc} {f : Fm} {x : Ins} {t : List UInt8} (h : At p ss S f x t) {i : Nat} (hi : i < f.stk.length) : (tp f.stk i).Ok S.objs.length := h.fr.sv _ (tp_mem hi)
theorem At.put {p : Prg} {ss : List Lk} {S : Mc} {f : Fm} {x : Ins} {t : List UInt8} (h : At p ss S f x t) {k : Nat} {l : List Vl} (ht : t = (kds f.stk).take (f.stk.length - k) ++ kds l) (hv : ∀ v ∈ l, v.Ok S.objs.length) :
  Mact.Ok p S (kds f.loc) t (.go f.loc (cutV f.stk k ++ l) S.objs S.inp S.out) := by
 refine ⟨rfl, ?_, h.fr.lv, fun v hv2 => ?_, h.ok.objs, Nat.le_refl _, by omega, h.ok.inp, h.ok.out⟩
 ·rw [kds_app, kds_cut, ht]
 ·rcases List.mem_append.1 hv2 with h1 | h1
  ·exact h.fr.sv v (cut_mem h1)
  ·exact hv v h1
theorem vi_ok {n : Nat} {x : Int} (h : in64 x) : (vi x).Ok n := And.intro (fun hr => by cases hr) h
theorem letters_mem {s : ByteArray} (h : lettersB s = true) : ∀ c ∈ s.toList, c = 73 ∨ c = 82 := by
 intro c hc
 obtain ⟨i, hi, rfl⟩ := List.getElem_of_mem hc
 have h1 : i < s.size := by rw [size_list]; exact hi
 have h2 := get_list s i h1
 rw [List.getElem?_eq_getElem hi] at h2
 rw [Option.some.inj h2]
 exact lettersB_true.1 h i h1
theorem Prg.Ok.fields {p : Prg} (hp : p.Ok) {c : Int} (h0 : 0 ≤ c) (h : c < p.cs.length) : (∀ b ∈ (p.cs.getD c.toNat ByteArray.empty).toList, b = 73 ∨ b = 82) ∧ (p.cs.getD c.toNat ByteArray.empty).size ≤ 10 := by
 have h1 := hp.cls c.toNat (by omega)
 unfold clsCode at h1
 split at h1
 ·cases h1
 ·split at h1
  ·rename_i h2 h3
   exact ⟨letters_mem h3, by omega⟩
  ·cases h1
theorem Prg.Ok.made {p : Prg} (hp : p.Ok) {c : Int} {k n : Nat} (lo : -2 ≤ c) (hi : c < p.cs.length) (hk : k ≤ 50) : (p.made c k).Ok p n := by
 by_cases h0 : 0 ≤ c
 ·have hf := hp.fields h0 hi
  have e : p.lets c k = (p.cs.getD c.toNat ByteArray.empty).toList := by unfold Prg.lets; rw [if_pos h0]
  have e2 : ∀ q, p.lets c q = (p.cs.getD c.toNat ByteArray.empty).toList := fun q => by unfold Prg.lets; rw [if_pos h0]
  refine ⟨lo, hi, ?_, ?_, ?_⟩
  ·show kds ((p.lets c k).map zeroV) = p.lets c _
   rw [e, e2, kds_zero hf.1]
  ·show ((p.lets c k).map zeroV).length ≤ 50
   rw [e, List.length_map, ← size_list]
   omega
  ·intro v hv
   obtain ⟨b, _, rfl⟩ := List.mem_map.1 hv
   exact zero_ok _ _
 ·have e : ∀ q, p.lets c q = List.replicate q (if c = -2 then 82 else 73) := fun q => by unfold Prg.lets; rw [if_neg h0]
  refine ⟨lo, hi, ?_, ?_, ?_⟩
  ·show kds ((p.lets c k).map zeroV) = p.lets c ((p.lets c k).map zeroV).length
   rw [List.length_map, e, List.length_replicate, e, kds_zero]
   intro b hb
   rw [List.mem_replicate] at hb
   rw [hb.2]
   split <;> simp
  ·show ((p.lets c k).map zeroV).length ≤ 50
   rw [List.length_map, e, List.length_replicate]
   exact hk
  ·intro v hv
   obtain ⟨b, _, rfl⟩ := List.mem_map.1 hv
   exact zero_ok _ _
theorem atB_in {s : List UInt8} {i : Int} (h0 : 0 ≤ i) (h : i < s.length) : atB s i = [s.getD i.toNat 0] := by
 unfold atB
 rw [if_pos ⟨h0, h⟩]
/-- An object that a reference names. -/
theorem At.obj {p : Prg} {ss : List Lk} {S : Mc} {f : Fm} {x : Ins} {t : List UInt8} (h : At p ss S f x t) {v : Vl} (hv : v.Ok S.objs.length) (hr : v.ref = true) (hn : v.n ≠ -1) : v.n.toNat < S.objs.length ∧ 0 ≤ v.n ∧ v.n < S.objs.length ∧ (S.objs.getD v.n.toNat default).Ok p S.objs.length := by
 have h1 := hv.1 hr
 have h2 : v.n.toNat < S.objs.length := by omega
 exact ⟨h2, by omega, h1.2, h.ok.objs _ (getD_mem h2)⟩
/-- A value of an object is stored. -/
theorem At.set {p : Prg} {ss : List Lk} {S : Mc} {f : Fm} {x : Ins} {t : List UInt8} (h : At p ss S f x t) {k r i : Nat} {v : Vl} (hk : t = (kds f.stk).take (f.stk.length - k)) (hr : r < S.objs.length) (hv : v.Ok S.objs.length) (hkd : i < (S.objs.getD r default).vals.length → kd v = (kds (S.objs.getD r default).vals).getD i 0) :
  Mact.Ok p S (kds f.loc) t (.go f.loc (cutV f.stk k) (S.objs.set r ⟨(S.objs.getD r default).cls, (S.objs.getD r default).vals.set i v⟩) S.inp S.out) := by
 have ho := h.ok.objs _ (getD_mem hr)
 have hl : (S.objs.set r ⟨(S.objs.getD r default).cls, (S.objs.getD r default).vals.set i v⟩).length = S.objs.length := by simp
 refine ⟨rfl, by rw [kds_cut, hk], ?_, ?_, ?_, by omega, by omega, h.ok.inp, h.ok.out⟩
 ·rw [hl]; exact h.fr.lv
 ·rw [hl]; exact fun v hv => h.fr.sv v (cut_mem hv)
 ·rw [hl]
  intro o ho2
  rcases List.mem_or_eq_of_mem_set ho2 with h1 | rfl
  ·exact h.ok.objs o h1
  ·refine ⟨ho.lo, ho.hi, ?_, ?_, ?_⟩
   ·show kds (List.set _ _ _) = p.lets _ (List.set _ _ _).length
    rw [kds_set hkd, List.length_set]
    exact ho.kinds
   ·show (List.set _ _ _).length ≤ 50
    rw [List.length_set]
    exact ho.len
   ·intro u hu
    rcases List.mem_or_eq_of_mem_set hu with h1 | rfl
    ·exact ho.vals u h1
    ·exact hv
/-- A new object. -/
theorem At.new {p : Prg} {ss : List Lk} {S : Mc} {f : Fm} {x : Ins} {t : List UInt8} (h : At p ss S f x t) {k : Nat} {o : Ob} (hk : t = (kds f.stk).take (f.stk.length - k) ++ [82]) (ho : ∀ n, o.Ok p n) :
  Mact.Ok p S (kds f.loc) t (.go f.loc (cutV f.stk k ++ [vr S.objs.length]) (S.objs ++ [o]) S.inp S.out) := by
 have hl : (S.objs ++ [o]).length = S.objs.length + 1 := by simp
 have hroom := h.ok.room
 refine ⟨rfl, ?_, ?_, ?_, ?_, by omega, by omega, h.ok.inp, h.ok.out⟩
 ·rw [kds_app, kds_cut, hk]; rfl
 ·rw [hl]; exact fun v hv => (h.fr.lv v hv).mono (by omega)
 ·rw [hl]
  intro v hv
  rcases List.mem_append.1 hv with h1 | h1
  ·exact (h.fr.sv v (cut_mem h1)).mono (by omega)
  ·rw [List.mem_singleton] at h1
   subst h1
   refine ⟨fun _ => ⟨?_, ?_⟩, ?_⟩
   ·show (-1 : Int) ≤ (S.objs.length : Int); omega
   ·show (S.objs.length : Int) < ((S.objs.length + 1 : Nat) : Int); omega
   ·unfold in64; show -9223372036854775808 ≤ (S.objs.length : Int) ∧ (S.objs.length : Int) ≤ 9223372036854775807; omega
 ·rw [hl]
  intro u hu
  rcases List.mem_append.1 hu with h1 | h1
  ·exact (h.ok.objs u h1).mono (by omega)
  ·rw [List.mem_singleton] at h1
   subst h1
   exact ho _
theorem cut_all (l : List UInt8) (n : Nat) (h : l.length = n) : l.take (n - 0) = l := by
 rw [Nat.sub_zero, ← h, List.take_length]
theorem fdiv_in {a : Int} (ha : in64 a) (k : Nat) : in64 (a.fdiv (2 ^ k)) := by
 have hd : (0 : Int) < 2 ^ k := Int.pow_pos (by decide)
 rw [Int.fdiv_eq_ediv_of_nonneg _ (Int.le_of_lt hd)]
 unfold in64 at *
 by_cases h0 : 0 ≤ a
 ·have h1 := Int.ediv_nonneg h0 (Int.le_of_lt hd)
  have h2 := Int.ediv_le_self (2 ^ k) h0
  omega
 ·have h1 : a * 1 ≥ a * 2 ^ k := Int.mul_le_mul_of_nonpos_left (by omega) hd
  have h2 : a ≤ a / 2 ^ k := (Int.le_ediv_iff_mul_le hd).2 (by omega)
  have h3 := Int.ediv_neg_of_neg_of_pos (show a < 0 by omega) hd
  omega
theorem tmod_in {a b : Int} (ha : in64 a) : in64 (a.tmod b) := by
 have h := Int.natAbs_tmod a b
 have h2 := Nat.mod_le a.natAbs b.natAbs
 rcases Int.lt_or_le a 0 with h0 | h0
 ·have h3 : a.tmod b ≤ 0 := by
   have := Int.tmod_nonneg b (show 0 ≤ -a by omega)
   rw [Int.neg_tmod] at this
   omega
  unfold in64 at *
  omega
 ·have h3 := Int.tmod_nonneg b h0
  unfold in64 at *
  omega
theorem in_0 : in64 0 := by unfold in64; decide
theorem in_1 : in64 1 := by unfold in64; decide
theorem pick_in {c : Prop} [Decidable c] {p q : Int × Int} (hp : in64 p.1) (hq : in64 q.1) : in64 (if c then p else q).1 := by
 split <;> assumption
theorem twoL_in {op a b : Int} (ha : in64 a) : in64 (twoL op a b).1 := by
 unfold twoL
 repeat' first | exact wrap_in _ | exact in_0 | exact tmod_in ha | exact fdiv_in ha _ | refine pick_in ?_ ?_
 ·show in64 (if a < b then 1 else 0)
  split
  ·exact in_1
  ·exact in_0
 ·show in64 (if a = b then 1 else 0)
  split
  ·exact in_1
  ·exact in_0
theorem At.touch {p : Prg} {ss : List Lk} {S : Mc} {f : Fm} {x : Ins} {t : List UInt8} (h : At p ss S f x t) (ho : x.op = 25 ∨ x.op = 26 ∨ x.op = 27 ∨ x.op = 29 ∨ x.op = 30 ∨ x.op = 31) :
  Mact.Ok p S (kds f.loc) t (S.touch f x) := by
 rcases ho with hx | hx | hx | hx | hx | hx
 ·-- Get
  have hin := h.ins.cls (by omega)
  have hfl := h.ins.fld (by omega)
  have he : effL p (p.ms.getD f.m default) x = some ([82], [(p.cs.getD x.a.toNat ByteArray.empty).toList.getD x.b.toNat 0]) := by
   unfold effL
   rw [show fieldL p.cs x.a x.b = [(p.cs.getD x.a.toNat ByteArray.empty).toList.getD x.b.toNat 0] by
    unfold fieldL
    rw [if_pos ⟨hin.1, hin.2⟩, atB_in hfl.1 (by rw [← size_list]; exact hfl.2)]]
   simp [hx, lR]
  obtain ⟨h1, h2, h3⟩ := h.eff (by omega) (by omega) (by omega) he
  simp only [List.length_singleton] at h1 h2 h3
  have hr := kd_R (h2 0 (by omega))
  unfold Mc.touch
  simp only [if_neg (show ¬ (x.op = 26 ∨ x.op = 29) by omega), if_neg (show ¬ x.op = 30 by omega), if_neg (show ¬ x.op = 27 by omega), if_pos hx, if_neg (show ¬ x.op = 26 by omega), if_neg (show ¬ x.op = 29 by omega), if_neg (show ¬ x.op = 31 by omega)]
  split
  ·trivial
  ·rename_i hn
   split
   ·trivial
   ·rename_i hc
    have hc2 := Decidable.not_not.1 hc
    obtain ⟨h4, h5, h6, h7⟩ := h.obj (h.tv (i := 0) (by omega)) hr hn
    have hk := h7.kinds
    rw [hc2] at hk
    unfold Prg.lets at hk
    rw [if_pos hin.1] at hk
    have hlen : x.b.toNat < (S.objs.getD (tp f.stk 0).n.toNat default).vals.length := by
     rw [← kds_len, hk, ← size_list]; omega
    refine h.put (l := [_]) ?_ ?_
    ·rw [h3]
     show _ ++ [_] = _ ++ [kd _]
     rw [kd_getD hlen, hk]
    ·intro v hv
     rw [List.mem_singleton] at hv
     subst hv
     exact h7.vals _ (getD_mem hlen)
 ·-- Put
  have hin := h.ins.cls (by omega)
  have hfl := h.ins.fld (by omega)
  have he : effL p (p.ms.getD f.m default) x = some ([82, (p.cs.getD x.a.toNat ByteArray.empty).toList.getD x.b.toNat 0], []) := by
   unfold effL
   rw [show fieldL p.cs x.a x.b = [(p.cs.getD x.a.toNat ByteArray.empty).toList.getD x.b.toNat 0] by
    unfold fieldL
    rw [if_pos ⟨hin.1, hin.2⟩, atB_in hfl.1 (by rw [← size_list]; exact hfl.2)]]
   simp [hx, lR]
  obtain ⟨h1, h2, h3⟩ := h.eff (by omega) (by omega) (by omega) he
  simp only [List.length_cons, List.length_nil, List.append_nil] at h1 h2 h3
  have hr := kd_R (h2 1 (by omega))
  have h0 := h2 0 (by omega)
  unfold Mc.touch
  simp only [if_pos (show x.op = 26 ∨ x.op = 29 by omega), if_neg (show ¬ x.op = 30 by omega), if_neg (show ¬ x.op = 27 by omega), if_neg (show ¬ x.op = 25 by omega), if_pos hx, if_neg (show ¬ x.op = 29 by omega), if_neg (show ¬ x.op = 31 by omega)]
  split
  ·trivial
  ·rename_i hn
   split
   ·trivial
   ·rename_i hc
    have hc2 := Decidable.not_not.1 hc
    obtain ⟨h4, h5, h6, h7⟩ := h.obj (h.tv (i := 1) (by omega)) hr hn
    have hk := h7.kinds
    rw [hc2] at hk
    unfold Prg.lets at hk
    rw [if_pos hin.1] at hk
    refine h.set h3 h4 (h.tv (by omega)) fun _ => ?_
    rw [h0, hk]
    rfl
 ·-- Is
  have he : effL p (p.ms.getD f.m default) x = some ([82], [73]) := by unfold effL; simp [hx, lI, lR]
  obtain ⟨h1, h2, h3⟩ := h.eff (by omega) (by omega) (by omega) he
  simp only [List.length_singleton] at h1 h2 h3
  unfold Mc.touch
  simp only [if_neg (show ¬ (x.op = 26 ∨ x.op = 29) by omega), if_neg (show ¬ x.op = 30 by omega), if_pos hx, if_neg (show ¬ x.op = 25 by omega), if_neg (show ¬ x.op = 26 by omega), if_neg (show ¬ x.op = 29 by omega), if_neg (show ¬ x.op = 31 by omega)]
  refine h.put (l := [_]) h3 ?_
  intro v hv
  rw [List.mem_singleton] at hv
  subst hv
  refine vi_ok ?_
  split <;> (unfold in64; decide)
 ·-- Elem
  have ha := h.ins.arr (by omega)
  have he : effL p (p.ms.getD f.m default) x = some ([82, 73], [if x.a = 1 then 82 else 73]) := by
   unfold effL
   rcases ha with ha | ha <;> simp [hx, lI, lR, ha, atB]
  obtain ⟨h1, h2, h3⟩ := h.eff (by omega) (by omega) (by omega) he
  simp only [List.length_cons, List.length_nil] at h1 h2 h3
  have hr := kd_R (h2 1 (by omega))
  unfold Mc.touch
  simp only [if_pos (show x.op = 26 ∨ x.op = 29 by omega), if_neg (show ¬ x.op = 30 by omega), if_neg (show ¬ x.op = 27 by omega), if_neg (show ¬ x.op = 25 by omega), if_neg (show ¬ x.op = 26 by omega), if_pos hx, if_neg (show ¬ x.op = 31 by omega)]
  split
  ·trivial
  ·rename_i hn
   split
   ·trivial
   ·rename_i hc
    have hc2 := Decidable.not_not.1 hc
    split
    ·trivial
    ·rename_i hb
     simp only [Nat.sub_self] at hb
     obtain ⟨h4, h5, h6, h7⟩ := h.obj (h.tv (i := 1) (by omega)) hr hn
     have hk := h7.kinds
     rw [hc2] at hk
     unfold Prg.lets at hk
     rw [if_neg (by omega)] at hk
     have hlen : (tp f.stk 0).n.toNat < (S.objs.getD (tp f.stk 1).n.toNat default).vals.length := by omega
     refine h.put (l := [_]) ?_ ?_
     ·rw [h3]
      show _ ++ [_] = _ ++ [kd _]
      rw [kd_getD hlen, hk, List.getD_eq_getElem?_getD, List.getElem?_replicate, if_pos hlen, Option.getD_some]
      congr 2
      rcases ha with ha | ha <;> simp [ha]
     ·intro v hv
      rw [List.mem_singleton] at hv
      subst hv
      exact h7.vals _ (getD_mem hlen)
 ·-- Set
  have ha := h.ins.arr (by omega)
  have he : effL p (p.ms.getD f.m default) x = some ([82, 73, if x.a = 1 then 82 else 73], []) := by
   unfold effL
   rcases ha with ha | ha <;> simp [hx, lI, lR, ha, atB]
  obtain ⟨h1, h2, h3⟩ := h.eff (by omega) (by omega) (by omega) he
  simp only [List.length_cons, List.length_nil, List.append_nil] at h1 h2 h3
  have hr := kd_R (h2 2 (by omega))
  have h0 := h2 0 (by omega)
  unfold Mc.touch
  simp only [if_neg (show ¬ (x.op = 26 ∨ x.op = 29) by omega), if_pos hx, if_neg (show ¬ x.op = 27 by omega), if_neg (show ¬ x.op = 25 by omega), if_neg (show ¬ x.op = 26 by omega), if_neg (show ¬ x.op = 29 by omega), if_neg (show ¬ x.op = 31 by omega)]
  split
  ·trivial
  ·rename_i hn
   split
   ·trivial
   ·rename_i hc
    have hc2 := Decidable.not_not.1 hc
    split
    ·trivial
    ·rename_i hb
     simp only [show 2 - 1 = 1 from rfl] at hb
     obtain ⟨h4, h5, h6, h7⟩ := h.obj (h.tv (i := 2) (by omega)) hr hn
     have hk := h7.kinds
     rw [hc2] at hk
     unfold Prg.lets at hk
     rw [if_neg (by omega)] at hk
     refine h.set h3 h4 (h.tv (by omega)) fun hlen => ?_
     have hg : (List.replicate (S.objs.getD (tp f.stk 2).n.toNat default).vals.length (if -1 - x.a = -2 then (82 : UInt8) else 73)).getD (tp f.stk 1).n.toNat 0 = if -1 - x.a = -2 then 82 else 73 := by
      rw [List.getD_eq_getElem?_getD, List.getElem?_replicate, if_pos hlen, Option.getD_some]
     rw [h0, hk, hg]
     rcases ha with ha | ha <;> simp [ha]
 ·-- Len
  have he : effL p (p.ms.getD f.m default) x = some ([82], [73]) := by unfold effL; simp [hx, lI, lR]
  obtain ⟨h1, h2, h3⟩ := h.eff (by omega) (by omega) (by omega) he
  simp only [List.length_singleton] at h1 h2 h3
  have hr := kd_R (h2 0 (by omega))
  unfold Mc.touch
  simp only [if_neg (show ¬ (x.op = 26 ∨ x.op = 29) by omega), if_neg (show ¬ x.op = 30 by omega), if_neg (show ¬ x.op = 27 by omega), if_neg (show ¬ x.op = 25 by omega), if_neg (show ¬ x.op = 26 by omega), if_neg (show ¬ x.op = 29 by omega), if_pos hx]
  split
  ·trivial
  ·rename_i hn
   split
   ·trivial
   ·obtain ⟨h4, h5, h6, h7⟩ := h.obj (h.tv (i := 0) (by omega)) hr hn
    refine h.put (l := [_]) h3 ?_
    intro v hv
    rw [List.mem_singleton] at hv
    subst hv
    refine vi_ok ?_
    have := h7.len
    unfold in64
    omega
theorem At.plain {p : Prg} {ss : List Lk} {S : Mc} {f : Fm} {x : Ins} {t : List UInt8} (h : At p ss S f x t) (hp : p.Ok) (h22 : x.op ≠ 22) (h23 : x.op ≠ 23) (h32 : x.op ≠ 32) (h33 : x.op ≠ 33) :
  Mact.Ok p S (kds f.loc) t (S.plain p f x) := by
 have hop := h.ins.op
 unfold Mc.plain
 simp only
 have cut0 : ∀ u : List UInt8, u.length = f.stk.length → u.take (f.stk.length - 0) = u := fun u hu => cut_all u _ hu
 by_cases hx : x.op = 1
 ·rw [if_pos hx]
  have he : effL p (p.ms.getD f.m default) x = some ([], [73]) := by unfold effL; simp [hx, lI]
  obtain ⟨h1, h2, h3⟩ := h.eff (by omega) (by omega) (by omega) he
  refine h.put (l := [_]) h3 ?_
  intro v hv
  rw [List.mem_singleton] at hv
  subst hv
  exact vi_ok h.bd.2.2.2
 rw [if_neg hx]
 by_cases hx : x.op = 2
 ·rw [if_pos hx]
  have he : effL p (p.ms.getD f.m default) x = some ([], [82]) := by unfold effL; simp [hx, lR]
  obtain ⟨h1, h2, h3⟩ := h.eff (by omega) (by omega) (by omega) he
  refine h.put (l := [_]) h3 ?_
  intro v hv
  rw [List.mem_singleton] at hv
  subst hv
  exact zero_ok _ 82
 rw [if_neg hx]
 by_cases hx : x.op = 3
 ·rw [if_pos hx]
  have hl := h.ins.loc (by omega)
  have hlen : x.a.toNat < f.loc.length := by rw [← kds_len, h.fr.loc]; omega
  have he : effL p (p.ms.getD f.m default) x = some ([], [(kindsL (p.ms.getD f.m default)).getD x.a.toNat 0]) := by
   unfold effL
   rw [atB_in hl.1 hl.2]
   simp [hx]
  obtain ⟨h1, h2, h3⟩ := h.eff (by omega) (by omega) (by omega) he
  refine h.put (l := [_]) ?_ ?_
  ·rw [h3]
   show _ ++ [_] = _ ++ [kd _]
   rw [kd_getD hlen, h.fr.loc]
   rfl
  intro v hv
  rw [List.mem_singleton] at hv
  subst hv
  exact h.fr.lv _ (getD_mem hlen)
 rw [if_neg hx]
 by_cases hx : x.op = 4
 ·rw [if_pos hx]
  have hl := h.ins.loc (by omega)
  have he : effL p (p.ms.getD f.m default) x = some ([(kindsL (p.ms.getD f.m default)).getD x.a.toNat 0], []) := by
   unfold effL
   rw [atB_in hl.1 hl.2]
   simp [hx]
  obtain ⟨h1, h2, h3⟩ := h.eff (by omega) (by omega) (by omega) he
  simp only [List.length_singleton, List.append_nil] at h1 h2 h3
  have h0 := h2 0 (by omega)
  refine ⟨?_, ?_, ?_, ?_, h.ok.objs, Nat.le_refl _, by omega, h.ok.inp, h.ok.out⟩
  ·refine kds_set fun _ => ?_
   rw [h0, h.fr.loc]
   rfl
  ·rw [kds_cut, h3]
  ·intro v hv
   rcases List.mem_or_eq_of_mem_set hv with h4 | rfl
   ·exact h.fr.lv v h4
   ·exact h.tv (by omega)
  ·exact fun v hv => h.fr.sv v (cut_mem hv)
 rw [if_neg hx]
 by_cases hx : x.op = 5
 ·rw [if_pos hx]
  obtain ⟨h1, h2⟩ := behL_dup h.beh hx
  rw [kds_len] at h1 h2
  refine h.put (l := [_]) ?_ ?_
  ·rw [h2, cut0 _ (kds_len _)]
   congr 1
   show _ = [kd _]
   have h3 : ((kds f.stk).drop (f.stk.length - 1)).length = 1 := by rw [List.length_drop, kds_len]; omega
   obtain ⟨c, hc⟩ := List.length_eq_one_iff.1 h3
   have h4 := tp_kd (l := f.stk) (pop := [c]) (i := 0) (by simpa using hc) (by simpa using h1) (by simp)
   rw [hc, h4]
   rfl
  ·intro v hv
   rw [List.mem_singleton] at hv
   subst hv
   exact h.tv (by omega)
 rw [if_neg hx]
 by_cases hx : x.op = 6
 ·rw [if_pos hx]
  obtain ⟨h1, h2⟩ := behL_pop h.beh hx
  rw [kds_len] at h1 h2
  refine h.put (l := []) ?_ (by simp)
  rw [h2]
  simp [kds]
 rw [if_neg hx]
 by_cases hx : x.op = 7
 ·rw [if_pos hx]
  obtain ⟨h1, h2⟩ := behL_swap h.beh hx
  rw [kds_len] at h1 h2
  have h3 : ((kds f.stk).drop (f.stk.length - 2)).length = 2 := by rw [List.length_drop, kds_len]; omega
  obtain ⟨c, d, hc⟩ : ∃ c d, (kds f.stk).drop (f.stk.length - 2) = [c, d] := by
   match hq : (kds f.stk).drop (f.stk.length - 2), h3 with
   | [c, d], _ => exact ⟨c, d, rfl⟩
  have h4 := tp_kd (l := f.stk) (pop := [c, d]) (i := 0) (by simpa using hc) (by simpa using h1) (by simp)
  have h5 := tp_kd (l := f.stk) (pop := [c, d]) (i := 1) (by simpa using hc) (by simpa using h1) (by simp)
  refine h.put (l := [_, _]) ?_ ?_
  ·rw [h2]
   show _ = _ ++ [kd _, kd _]
   rw [h4, h5]
   show _ = _ ++ [d, c]
   have e1 : (kds f.stk).drop (f.stk.length - 1) = [d] := by
    rw [show f.stk.length - 1 = f.stk.length - 2 + 1 by omega, ← List.drop_drop, hc]; rfl
   have e2 : ((kds f.stk).take (f.stk.length - 1)).drop (f.stk.length - 2) = [c] := by
    rw [List.drop_take, show f.stk.length - 1 - (f.stk.length - 2) = 1 by omega, hc]; rfl
   rw [e1, e2, List.append_assoc]
   rfl
  ·intro v hv
   rcases List.mem_cons.1 hv with rfl | hv
   ·exact h.tv (by omega)
   ·rw [List.mem_singleton] at hv
    subst hv
    exact h.tv (by omega)
 rw [if_neg hx]
 by_cases hx : x.op = 18
 ·rw [if_pos hx]
  have he : effL p (p.ms.getD f.m default) x = some ([73], [73]) := by unfold effL; simp [hx, lI]
  obtain ⟨h1, h2, h3⟩ := h.eff (by omega) (by omega) (by omega) he
  refine h.put (l := [_]) h3 ?_
  intro v hv
  rw [List.mem_singleton] at hv
  subst hv
  exact vi_ok (wrap_in _)
 rw [if_neg hx]
 by_cases hx : x.op = 21
 ·rw [if_pos hx]
  have he : effL p (p.ms.getD f.m default) x = some ([82, 82], [73]) := by unfold effL; simp [hx, lI, lR]
  obtain ⟨h1, h2, h3⟩ := h.eff (by omega) (by omega) (by omega) he
  refine h.put (l := [_]) h3 ?_
  intro v hv
  rw [List.mem_singleton] at hv
  subst hv
  refine vi_ok ?_
  split <;> (unfold in64; decide)
 rw [if_neg hx]
 by_cases hx : x.op = 34
 ·rw [if_pos hx]
  have he : effL p (p.ms.getD f.m default) x = some ([], [73]) := by unfold effL; simp [hx, lI]
  obtain ⟨h1, h2, h3⟩ := h.eff (by omega) (by omega) (by omega) he
  cases hi : S.inp with
  | nil => trivial
  | cons n r =>
   have hb := h.ok.inp
   rw [hi] at hb
   refine ⟨rfl, ?_, h.fr.lv, fun v hv => ?_, h.ok.objs, Nat.le_refl _, by omega, fun y hy => hb y (List.mem_cons_of_mem _ hy), h.ok.out⟩
   ·rw [kds_app, h3]
    simp only [List.length_nil]
    rw [cut0 _ (kds_len _)]
    rfl
   ·rcases List.mem_append.1 hv with h4 | h4
    ·exact h.fr.sv v h4
    ·rw [List.mem_singleton] at h4
     subst h4
     exact vi_ok (hb n (List.mem_cons_self ..))
 rw [if_neg hx]
 by_cases hx : x.op = 35
 ·rw [if_pos hx]
  have he : effL p (p.ms.getD f.m default) x = some ([73], []) := by unfold effL; simp [hx, lI]
  obtain ⟨h1, h2, h3⟩ := h.eff (by omega) (by omega) (by omega) he
  simp only [List.length_singleton, List.append_nil] at h1 h2 h3
  refine ⟨rfl, by rw [kds_cut, h3], h.fr.lv, fun v hv => h.fr.sv v (cut_mem hv), h.ok.objs, Nat.le_refl _, by simp; omega, h.ok.inp, fun y hy => ?_⟩
  rcases List.mem_append.1 hy with h4 | h4
  ·exact h.ok.out y h4
  ·rw [List.mem_singleton] at h4
   subst h4
   exact (h.tv (i := 0) (by omega)).2
 rw [if_neg hx]
 by_cases hx : x.op = 24
 ·rw [if_pos hx]
  have he : effL p (p.ms.getD f.m default) x = some ([], [82]) := by unfold effL; simp [hx, lR]
  obtain ⟨h1, h2, h3⟩ := h.eff (by omega) (by omega) (by omega) he
  have hin := h.ins.cls (by omega)
  have := h.new (k := 0) (o := p.made x.a 0) h3 (fun n => hp.made (by omega) hin.2 (by omega))
  rwa [show cutV f.stk 0 = f.stk by unfold cutV; simp] at this
 rw [if_neg hx]
 by_cases hx : x.op = 28
 ·rw [if_pos hx]
  have he : effL p (p.ms.getD f.m default) x = some ([73], [82]) := by unfold effL; simp [hx, lI, lR]
  obtain ⟨h1, h2, h3⟩ := h.eff (by omega) (by omega) (by omega) he
  have ha := h.ins.arr (by omega)
  split
  ·trivial
  ·exact h.new (k := 1) (o := p.made (-1 - x.a) _) h3 (fun n => hp.made (by omega) (by omega) (by omega))
 rw [if_neg hx]
 by_cases hx : x.op = 25 ∨ x.op = 26 ∨ x.op = 27 ∨ x.op = 29 ∨ x.op = 30 ∨ x.op = 31
 ·rw [if_pos hx]
  exact h.touch hx
 rw [if_neg hx]
 split
 ·trivial
 ·have he : effL p (p.ms.getD f.m default) x = some ([73, 73], [73]) := by
   unfold effL
   rw [if_pos ⟨by omega, by omega, by omega⟩]
   rfl
  obtain ⟨h1, h2, h3⟩ := h.eff (by omega) (by omega) (by omega) he
  refine h.put (l := [_]) h3 ?_
  intro v hv
  rw [List.mem_singleton] at hv
  subst hv
  exact vi_ok (twoL_in (h.tv (i := 1) h1).2)
end Go.Proofs.YtojobkhidlfeoaaDoor

/-! What a program means, plain: each step of a verified program's machine keeps it well formed, and brings it nearer to its end. What a program means, plain: whole runs; more fuel, more inputs; where a run may end. What a program means, plain: no stack of a verified program is long. -/
/-! What a program means, plain: each step of a verified program's machine keeps it well formed, and brings it nearer to its end. -/
namespace Go.Proofs.YtojobkhidlfeoaaDoor

/-- A verified program. -/
structure Vf (p : Prg) (ss : List Lk) : Prop where
 ok : p.Ok
 look : Looks p ss
 bd : p.Bd

theorem nextL_one {xs : List Ins} {pc : Nat} (h : pc < xs.length) (h1 : (xs.getD pc default).op ≠ 33) (h2 : (xs.getD pc default).op ≠ 22) (h3 : (xs.getD pc default).op ≠ 23) : nextL xs pc = [(pc : Int) + 1] := by
 unfold nextL
 rw [if_pos ⟨by omega, by omega⟩]
 simp only [Int.toNat_natCast]
 rw [if_neg h1, if_neg h2, if_neg h3]
theorem nextL_jump {xs : List Ins} {pc : Nat} (h : pc < xs.length) (h2 : (xs.getD pc default).op = 22) : (xs.getD pc default).a ∈ nextL xs pc := by
 unfold nextL
 rw [if_pos ⟨by omega, by omega⟩]
 simp only [Int.toNat_natCast]
 rw [if_neg (by omega), if_pos h2]
 exact List.mem_singleton.2 rfl
theorem nextL_zero {xs : List Ins} {pc : Nat} (h : pc < xs.length) (h2 : (xs.getD pc default).op = 23) : (xs.getD pc default).a ∈ nextL xs pc ∧ (pc : Int) + 1 ∈ nextL xs pc := by
 unfold nextL
 rw [if_pos ⟨by omega, by omega⟩]
 simp only [Int.toNat_natCast]
 rw [if_neg (by omega), if_neg (by omega), if_pos h2]
 split
 ·rename_i e; rw [e]; simp
 ·split <;> simp

/-- The frame goes on there. -/
theorem At.to_ {p : Prg} {ss : List Lk} {S : Mc} {f : Fm} {x : Ins} {t : List UInt8} (h : At p ss S f x t) {k : Int} (hk : k ∈ nextL (p.ms.getD f.m default).code f.pc) (h0 : 0 ≤ k) {q : Nat} (hq : (q : Int) = k) {loc stk : List Vl} {n : Nat} (hl : kds loc = kds f.loc) (hs : kds stk = t) (lv : ∀ v ∈ loc, v.Ok n) (sv : ∀ v ∈ stk, v.Ok n) :
  Fm.Ok p ss n ⟨f.m, q, loc, stk⟩ (kds stk) := by
 obtain ⟨h1, h2, h3⟩ := h.next k hk
 have e : k.toNat = q := by omega
 rw [e] at h2 h3
 exact ⟨h.fr.m, by show q < (p.ms.getD f.m default).code.length; omega, h2, by rw [hs]; exact h3, by show kds loc = _; rw [hl]; exact h.fr.loc, lv, sv⟩
/-- .. just behind it. -/
theorem At.one {p : Prg} {ss : List Lk} {S : Mc} {f : Fm} {x : Ins} {t : List UInt8} (h : At p ss S f x t) (h33 : x.op ≠ 33) (h22 : x.op ≠ 22) : (f.pc : Int) + 1 ∈ nextL (p.ms.getD f.m default).code f.pc := by
 have hx := h.xe
 unfold Prg.at_ at hx
 by_cases h23 : x.op = 23
 ·exact (nextL_zero h.fr.pc (by rw [← hx]; exact h23)).2
 ·rw [nextL_one h.fr.pc (by rw [← hx]; exact h33) (by rw [← hx]; exact h22) (by rw [← hx]; exact h23)]
  exact List.mem_singleton.2 rfl
theorem At.jmp {p : Prg} {ss : List Lk} {S : Mc} {f : Fm} {x : Ins} {t : List UInt8} (h : At p ss S f x t) (h22 : x.op = 22 ∨ x.op = 23) : x.a ∈ nextL (p.ms.getD f.m default).code f.pc := by
 have hx := h.xe
 unfold Prg.at_ at hx
 rcases h22 with h22 | h22
 ·have := nextL_jump h.fr.pc (by rw [← hx]; exact h22)
  rwa [← hx] at this
 ·have := (nextL_zero h.fr.pc (by rw [← hx]; exact h22)).1
  rwa [← hx] at this
/-- The run ends at the frame. -/
theorem At.stop {p : Prg} {ss : List Lk} {S : Mc} {f : Fm} {x : Ins} {t : List UInt8} (h : At p ss S f x t) (k c : Int) : (S.stop k c f).Ok p ss :=
 ⟨h.ok.top, fun e => (by cases e), h.ok.objs, h.ok.inp, h.ok.out, h.ok.fuel, h.ok.room⟩
theorem enter_ok {p : Prg} {ss : List Lk} (v : Vf p ss) {m n : Nat} (hm : m < p.ms.length) {args : List Vl} (ha : kds args = (p.ms.getD m default).params.toList) (hv : ∀ u ∈ args, u.Ok n) : (p.enter m args).Ok p ss n (kds (p.enter m args).stk) := by
 have h1 := v.ok.meth m hm
 unfold headCode at h1
 split at h1
 ·cases h1
 ·rename_i h2
  split at h1
  ·cases h1
  ·rename_i h3
   rw [not_or, not_or, not_or, Decidable.not_not, Decidable.not_not] at h3
   have hlen : args.length = (p.ms.getD m default).params.toList.length := by rw [← kds_len, ha]
   have hg := look_good (by omega) (v.look.look m hm)
   refine ⟨hm, by show 0 < (p.ms.getD m default).code.length; omega, hg.1.zero, hg.1.empty, ?_, ?_, by show ∀ v ∈ ([] : List Vl), _; simp⟩
   ·show kds (args ++ _) = _
    rw [kds_app, kds_zero, ha]
    ·show _ ++ (kindsL _).drop args.length = kindsL (p.ms.getD m default)
     unfold kindsL
     rw [hlen, List.drop_left]
    ·intro c hc
     have hc2 := List.mem_of_mem_drop hc
     unfold kindsL at hc2
     rcases List.mem_append.1 hc2 with h4 | h4
     ·exact letters_mem h3.1 c h4
     ·exact letters_mem h3.2.1 c h4
   ·show ∀ u ∈ args ++ _, u.Ok n
    intro u hu
    rcases List.mem_append.1 hu with h4 | h4
    ·exact hv u h4
    ·obtain ⟨c, _, rfl⟩ := List.mem_map.1 h4
     exact zero_ok _ _
/-- A step that leaves the frames below alone. -/
theorem At.keep {p : Prg} {ss : List Lk} {S : Mc} {f : Fm} {below : List Fm} {x : Ins} {t : List UInt8} (h : At p ss S f x t) (hf : S.frs = f :: below) {q : Nat} {loc stk : List Vl} {objs : List Ob} {inp out : List Int} {fuel : Nat} (hq : Fm.Ok p ss objs.length ⟨f.m, q, loc, stk⟩ (kds stk))
  (ho : ∀ o ∈ objs, o.Ok p objs.length) (hl : S.objs.length ≤ objs.length) (hn : objs.length + out.length ≤ S.objs.length + S.out.length + 1) (hi : ∀ x ∈ inp, in64 x) (hu : ∀ x ∈ out, in64 x) (hfu : fuel ≤ S.fuel) (hmu : 123 * fuel + Fm.mu p ⟨f.m, q, loc, stk⟩ < 123 * S.fuel + f.mu p) :
  Mc.Ok p ss ⟨⟨f.m, q, loc, stk⟩ :: below, objs, inp, fuel, out, S.fin⟩ ∧ Mc.mu p ⟨⟨f.m, q, loc, stk⟩ :: below, objs, inp, fuel, out, S.fin⟩ < S.mu p := by
 have hm : Mc.mu p ⟨⟨f.m, q, loc, stk⟩ :: below, objs, inp, fuel, out, S.fin⟩ < S.mu p := by
  unfold Mc.mu
  rw [hf]
  simp only [List.map_cons, List.sum_cons]
  omega
 refine ⟨⟨fun f' b' e => ?_, fun _ => by simp, ho, hi, hu, by have := h.ok.fuel; show fuel ≤ _; omega, ?_⟩, hm⟩
 ·injection e with e1 e2
  subst e1 e2
  exact ⟨hq, ((h.ok.top f below hf).2).mono hl⟩
 ·have := h.ok.room
  have e : S.frs.length = below.length + 1 := by rw [hf]; rfl
  show objs.length + out.length + (below.length + 1) + _ ≤ 300000
  omega
theorem Mc.Ok.step {p : Prg} {ss : List Lk} {S : Mc} (h : S.Ok p ss) (v : Vf p ss) : (S.step p).Ok p ss ∧ (S.fin = none → (S.step p).fin = none → (S.step p).mu p < S.mu p) := by
 by_cases hfin0 : S.fin ≠ none
 ·rw [Mc.step_end hfin0]
  exact ⟨h, fun e => absurd e hfin0⟩
 have hfin : S.fin = none := Decidable.not_not.1 hfin0
 obtain ⟨f, below, hf⟩ := List.exists_cons_of_ne_nil (h.live hfin)
 obtain ⟨t, a⟩ := h.at_ v.ok v.look v.bd hf
 rw [Mc.step_on hfin hf]
 have hpc := a.fr.pc
 have hfr := h.top f below hf
 unfold Mc.stepF
 simp only
 generalize hx : p.at_ f.m f.pc = x at a
 by_cases h1 : x.op = 22 ∨ x.op = 23
 ·rw [if_pos h1]
  have hj := a.ins.jmp h1
  split
  ·rename_i h2
   have he : effL p (p.ms.getD f.m default) x = some ([73], []) := by unfold effL; simp [h2.1, lI]
   obtain ⟨e1, e2, e3⟩ := a.eff (by omega) (by omega) (by omega) he
   simp only [List.length_singleton, List.append_nil] at e1 e2 e3
   have := a.keep (loc := f.loc) (stk := cutV f.stk 1) (objs := S.objs) (inp := S.inp) (out := S.out) (fuel := S.fuel) hf (a.to_ (a.one (by omega) (by omega)) (by omega) (q := f.pc + 1) (by omega) rfl (by rw [kds_cut, e3]) a.fr.lv (fun v hv => a.fr.sv v (cut_mem hv))) h.objs (Nat.le_refl _) (by omega) h.inp h.out (Nat.le_refl _) (by unfold Fm.mu; simp only; omega)
   exact ⟨this.1, fun _ _ => this.2⟩
  ·rename_i h2
   split
   ·exact ⟨a.stop _ _, fun _ e => by cases e⟩
   ·rename_i h3
    have hst : kds (if x.op = 23 then cutV f.stk 1 else f.stk) = t := by
     rcases h1 with h1 | h1
     ·have he : effL p (p.ms.getD f.m default) x = some ([], []) := by unfold effL; simp [h1]
      obtain ⟨e1, e2, e3⟩ := a.eff (by omega) (by omega) (by omega) he
      rw [if_neg (by omega), e3, List.append_nil]
      exact (cut_all _ _ (kds_len _)).symm
     ·have he : effL p (p.ms.getD f.m default) x = some ([73], []) := by unfold effL; simp [h1, lI]
      obtain ⟨e1, e2, e3⟩ := a.eff (by omega) (by omega) (by omega) he
      simp only [List.length_singleton, List.append_nil] at e1 e2 e3
      rw [if_pos h1, kds_cut, e3]
    have hsv : ∀ v ∈ (if x.op = 23 then cutV f.stk 1 else f.stk), v.Ok S.objs.length := by
     intro v hv
     split at hv
     ·exact a.fr.sv v (cut_mem hv)
     ·exact a.fr.sv v hv
    have := a.keep (loc := f.loc) (stk := if x.op = 23 then cutV f.stk 1 else f.stk) (objs := S.objs) (inp := S.inp) (out := S.out) (fuel := if x.a ≤ f.pc then S.fuel - 1 else S.fuel) hf (a.to_ (a.jmp h1) hj.1 (q := x.a.toNat) (by omega) rfl hst a.fr.lv hsv) h.objs (Nat.le_refl _) (by omega) h.inp h.out (by split <;> omega) (by
     unfold Fm.mu
     simp only
     have hh := v.ok.meth f.m a.fr.m
     have hc : (p.ms.getD f.m default).code.length ≤ 120 := by
      unfold headCode at hh
      split at hh
      ·cases hh
      ·omega
     split
     ·rename_i h4
      have : S.fuel ≠ 0 := fun e => h3 ⟨h4, e⟩
      omega
     ·omega)
    exact ⟨this.1, fun _ _ => this.2⟩
 rw [if_neg h1]
 by_cases h2 : x.op = 32
 ·rw [if_pos h2]
  split
  ·exact ⟨a.stop _ _, fun _ e => by cases e⟩
  ·rename_i h3
   have hc := a.ins.call h2
   have hm : x.a.toNat < p.ms.length := by omega
   have he : effL p (p.ms.getD f.m default) x = some ((p.ms.getD x.a.toNat default).params.toList, (p.ms.getD x.a.toNat default).ret.toList) := by
    unfold effL
    simp only [h2]
    simp only [show ((0 : Int) ≤ x.a ∧ x.a < p.ms.length) = True by simp; omega]
    simp
   have hb := behL_eff a.beh (by omega) (by omega) (by omega) he
   rw [kds_len] at hb
   have hsz := size_list (p.ms.getD x.a.toNat default).params
   have hargs : kds (f.stk.drop (f.stk.length - (p.ms.getD x.a.toNat default).params.size)) = (p.ms.getD x.a.toNat default).params.toList := by
    have := hb.2.1
    rw [hsz]
    conv => rhs; rw [← this]
    unfold kds
    rw [List.map_drop]
   have he := enter_ok (n := S.objs.length) v hm hargs (fun u hu => a.fr.sv u (List.mem_of_mem_drop hu))
   have hle := a.one (by omega) (by omega)
   have hto := a.to_ (loc := f.loc) (stk := cutV f.stk (p.ms.getD x.a.toNat default).params.size) (n := S.objs.length) hle (by omega) (q := f.pc + 1) (by omega) rfl
   have hme := v.ok.meth x.a.toNat hm
   have hcl : (p.ms.getD x.a.toNat default).code.length ≤ 120 := by
    unfold headCode at hme
    split at hme
    ·cases hme
    ·omega
   have hmu : Mc.mu p { S with frs := p.enter x.a.toNat (f.stk.drop (f.stk.length - (p.ms.getD x.a.toNat default).params.size)) :: { f with stk := cutV f.stk (p.ms.getD x.a.toNat default).params.size, pc := f.pc + 1 } :: below, fuel := S.fuel - 1 } < S.mu p := by
    unfold Mc.mu
    rw [hf]
    simp only [List.map_cons, List.sum_cons, Fm.mu, Prg.enter]
    omega
   refine ⟨⟨fun f' b' e => ?_, fun _ => by simp, h.objs, h.inp, h.out, by have := h.fuel; show S.fuel - 1 ≤ 2000; omega, ?_⟩, fun _ _ => hmu⟩
   ·injection e with e1 e2
    subst e1 e2
    refine ⟨he, ?_, hfr.2⟩
    obtain ⟨n1, n2, n3⟩ := a.next _ hle
    have e4 : ((f.pc : Int) + 1).toNat = f.pc + 1 := by omega
    rw [e4] at n2 n3
    refine ⟨a.fr.m, by show f.pc + 1 < (p.ms.getD f.m default).code.length; omega, n2, ?_, a.fr.loc, a.fr.lv, fun u hu => a.fr.sv u (cut_mem hu)⟩
    show (ss.getD f.m default).stk.getD (f.pc + 1) [] = kds (cutV f.stk _) ++ (p.ms.getD x.a.toNat default).ret.toList
    rw [n3, hb.2.2, kds_cut, hsz]
   ·have := h.room
    have e : S.frs.length = below.length + 1 := by rw [hf]; rfl
    show S.objs.length + S.out.length + (below.length + 1 + 1) + _ ≤ 300000
    omega
 rw [if_neg h2]
 by_cases h3 : x.op = 33
 ·rw [if_pos h3]
  cases below with
  | nil =>
   refine ⟨⟨fun f' b' e => (by cases e), fun e => (by cases e), h.objs, h.inp, h.out, h.fuel, ?_⟩, fun _ e => by cases e⟩
   have := h.room
   show S.objs.length + S.out.length + 0 + (123 * S.fuel + 0) ≤ 300000
   unfold Mc.mu at this
   omega
  | cons g under =>
   have hg := hfr.2
   have he : effL p (p.ms.getD f.m default) x = some ((p.ms.getD f.m default).ret.toList, []) := by unfold effL; simp [h3]
   have hb := behL_eff a.beh (by omega) (by omega) (by omega) he
   have ht := behL_ret a.beh h3
   rw [kds_len] at hb
   have hret : kds f.stk = (p.ms.getD f.m default).ret.toList := by
    have h5 := hb.2.2
    rw [ht, List.append_nil] at h5
    have h6 := congrArg List.length h5
    simp only [List.length_nil, List.length_take, kds_len] at h6
    have h7 := hb.2.1
    rwa [show f.stk.length - (p.ms.getD f.m default).ret.toList.length = 0 by omega, List.drop_zero] at h7
   have hmu : Mc.mu p (S.put under { g with stk := g.stk ++ f.stk }) < S.mu p := by
    unfold Mc.mu Mc.put
    rw [hf]
    simp only [List.map_cons, List.sum_cons, Fm.mu]
    omega
   refine ⟨⟨fun f' b' e => ?_, fun _ => by simp [Mc.put], h.objs, h.inp, h.out, h.fuel, ?_⟩, fun _ _ => hmu⟩
   ·injection e with e1 e2
    subst e1 e2
    refine ⟨⟨hg.1.m, hg.1.pc, hg.1.seen, ?_, hg.1.loc, hg.1.lv, fun u hu => ?_⟩, hg.2⟩
    ·show _ = kds (g.stk ++ f.stk)
     rw [kds_app, hret]
     exact hg.1.stk
    ·rcases List.mem_append.1 hu with h8 | h8
     ·exact hg.1.sv u h8
     ·exact a.fr.sv u h8
   ·have := h.room
    have e : S.frs.length = under.length + 1 + 1 := by rw [hf]; rfl
    show S.objs.length + S.out.length + (under.length + 1) + Mc.mu p (S.put under { g with stk := g.stk ++ f.stk }) ≤ 300000
    omega
 rw [if_neg h3]
 have hp := a.plain v.ok (by omega) (by omega) h2 h3
 cases hact : S.plain p f x with
 | trap c => exact ⟨a.stop _ _, fun _ e => by cases e⟩
 | go loc stk objs inp out =>
  rw [hact] at hp
  obtain ⟨e1, e2, e3, e4, e5, e6, e7, e8, e9⟩ := hp
  have := a.keep (loc := loc) (stk := stk) (objs := objs) (inp := inp) (out := out) (fuel := S.fuel) hf (a.to_ (a.one h3 (by omega)) (by omega) (q := f.pc + 1) (by omega) e1 e2 e3 e4) e5 e6 e7 e8 e9 (Nat.le_refl _) (by unfold Fm.mu; simp only; omega)
  exact ⟨this.1, fun _ _ => this.2⟩
end Go.Proofs.YtojobkhidlfeoaaDoor

/-! What a program means, plain: whole runs; more fuel, more inputs; where a run may end. -/
namespace Go.Proofs.YtojobkhidlfeoaaDoor

/-- All that is left is done. -/
def Mc.run (p : Prg) (S : Mc) : Mc := Mc.steps p (S.mu p + 1) S
theorem steps_add (p : Prg) : ∀ (a b : Nat) (S : Mc), Mc.steps p (a + b) S = Mc.steps p b (Mc.steps p a S)
 | 0, b, S => by rw [Nat.zero_add]; rfl
 | a + 1, b, S => by
  rw [show a + 1 + b = (a + b) + 1 by omega]
  exact steps_add p a b (S.step p)
theorem steps_one (p : Prg) (k : Nat) (S : Mc) : Mc.steps p (k + 1) S = (Mc.steps p k S).step p := steps_add p k 1 S
theorem steps_fin {p : Prg} {S : Mc} (h : S.fin ≠ none) : ∀ k, Mc.steps p k S = S
 | 0 => rfl
 | k + 1 => by
  show Mc.steps p k (S.step p) = S
  rw [Mc.step_end h]
  exact steps_fin h k
theorem Mc.Ok.steps {p : Prg} {ss : List Lk} (v : Vf p ss) : ∀ (k : Nat) {S : Mc}, S.Ok p ss → (Mc.steps p k S).Ok p ss
 | 0, _, h => h
 | k + 1, _, h => Mc.Ok.steps v k (h.step v).1
theorem Mc.Ok.ends {p : Prg} {ss : List Lk} (v : Vf p ss) : ∀ (k : Nat) {S : Mc}, S.Ok p ss → S.mu p < k → (Mc.steps p k S).fin ≠ none
 | 0, _, _, hk => absurd hk (Nat.not_lt_zero _)
 | k + 1, S, h, hk => by
  show (Mc.steps p k (S.step p)).fin ≠ none
  by_cases hf : (S.step p).fin = none
  ·have hf0 : S.fin = none := Decidable.byContradiction fun e => by rw [Mc.step_end e] at hf; exact e hf
   exact Mc.Ok.ends v k (h.step v).1 (by have := (h.step v).2 hf0 hf; omega)
  ·rw [steps_fin hf]
   exact hf
theorem Mc.Ok.run_fin {p : Prg} {ss : List Lk} {S : Mc} (h : S.Ok p ss) (v : Vf p ss) : (S.run p).fin ≠ none := h.ends v _ (Nat.lt_succ_self _)
theorem Mc.Ok.run_ok {p : Prg} {ss : List Lk} {S : Mc} (h : S.Ok p ss) (v : Vf p ss) : (S.run p).Ok p ss := h.steps v _
/-- What has ended is the run's end. -/
theorem Mc.Ok.run_is {p : Prg} {ss : List Lk} {S : Mc} (h : S.Ok p ss) (v : Vf p ss) {k : Nat} (hk : (Mc.steps p k S).fin ≠ none) : Mc.steps p k S = S.run p := by
 have h1 : Mc.steps p (k + (S.mu p + 1)) S = Mc.steps p k S := by rw [steps_add, steps_fin hk]
 have h2 : Mc.steps p (S.mu p + 1 + k) S = S.run p := by
  rw [steps_add]
  exact steps_fin (h.run_fin v) k
 rw [← h1, Nat.add_comm, h2]
theorem Mc.Ok.run_step {p : Prg} {ss : List Lk} {S : Mc} (h : S.Ok p ss) (v : Vf p ss) : (S.step p).run p = S.run p := by
 have h1 := (h.step v).1.run_fin v
 have h2 : Mc.steps p ((S.step p).mu p + 1 + 1) S = (S.step p).run p := rfl
 rw [← h2]
 exact h.run_is v (by rw [h2]; exact h1)
theorem Mc.Ok.new {p : Prg} {ss : List Lk} (v : Vf p ss) {inp : List Int} {fuel : Nat} (hi : ∀ x ∈ inp, in64 x) (hf : fuel ≤ 2000) : (Mc.new p inp fuel).Ok p ss := by
 have h0 : 0 < p.ms.length := v.ok.one
 have h1 := v.ok.meth 0 h0
 have hc : (p.ms.getD 0 default).code.length ≤ 120 ∧ (p.ms.getD 0 default).params.toList = [] := by
  unfold headCode at h1
  split at h1
  ·cases h1
  ·split at h1
   ·cases h1
   ·rename_i h2 h3
    refine ⟨by omega, Decidable.byContradiction fun e => h3 (.inr (.inr (.inr ⟨rfl, .inl e⟩)))⟩
 refine ⟨fun f below e => ?_, fun _ => by simp [Mc.new], by simp [Mc.new], hi, by simp [Mc.new], hf, ?_⟩
 ·injection e with e1 e2
  subst e1 e2
  exact ⟨enter_ok v h0 (by rw [hc.2]; rfl) (by simp), trivial⟩
 ·show 0 + 0 + 1 + (123 * fuel + (List.map (Fm.mu p) [p.enter 0 []]).sum) ≤ 300000
  simp only [List.map_cons, List.map_nil, List.sum_cons, List.sum_nil]
  unfold Fm.mu Prg.enter
  simp only
  omega

/-- Inputs and output are passed on. -/
def Mact.io (inp out : List Int) : Mact → Mact
 | .trap t => .trap t
 | .go loc stk objs _ _ => .go loc stk objs inp out
theorem ite_io {c : Prop} [Decidable c] {a b : Mact} {i o : List Int} : Mact.io i o (if c then a else b) = if c then Mact.io i o a else Mact.io i o b := by
 split <;> rfl
theorem touch_io (S : Mc) (f : Fm) (x : Ins) (i o : List Int) : Mc.touch { S with inp := i, out := o } f x = Mact.io i o (S.touch f x) := by
 unfold Mc.touch
 simp only [ite_io]
 rfl
theorem plain_io (p : Prg) (S : Mc) (f : Fm) (x : Ins) (i o : List Int) (h34 : x.op ≠ 34) (h35 : x.op ≠ 35) : Mc.plain p { S with inp := i, out := o } f x = Mact.io i o (S.plain p f x) := by
 unfold Mc.plain
 simp only [ite_io, if_neg h34, if_neg h35, touch_io]
 rfl
theorem touch_same (S : Mc) (f : Fm) (x : Ins) : (∃ t, S.touch f x = .trap t) ∨ ∃ l k o, S.touch f x = .go l k o S.inp S.out := by
 have h := touch_io S f x S.inp S.out
 cases ha : S.touch f x with
 | trap t => exact .inl ⟨t, rfl⟩
 | go l k o i u =>
  have e : Mc.touch { S with inp := S.inp, out := S.out } f x = S.touch f x := rfl
  rw [e, ha] at h
  injection h with _ _ _ h1 h2
  exact .inr ⟨l, k, o, by rw [h1, h2]⟩
theorem plain_same (p : Prg) (S : Mc) (f : Fm) (x : Ins) (h34 : x.op ≠ 34) (h35 : x.op ≠ 35) : (∃ t, S.plain p f x = .trap t) ∨ ∃ l k o, S.plain p f x = .go l k o S.inp S.out := by
 have h := plain_io p S f x S.inp S.out h34 h35
 cases ha : S.plain p f x with
 | trap t => exact .inl ⟨t, rfl⟩
 | go l k o i u =>
  have e : Mc.plain p { S with inp := S.inp, out := S.out } f x = S.plain p f x := rfl
  rw [e, ha] at h
  injection h with _ _ _ h1 h2
  exact .inr ⟨l, k, o, by rw [h1, h2]⟩
theorem plain_34 (p : Prg) (S : Mc) (f : Fm) (x : Ins) (h : x.op = 34) : S.plain p f x = (match S.inp with | [] => .trap 6 | n :: r => .go f.loc (f.stk ++ [vi n]) S.objs r S.out) := by
 unfold Mc.plain
 simp only [h]
 rfl
theorem plain_35 (p : Prg) (S : Mc) (f : Fm) (x : Ins) (h : x.op = 35) : S.plain p f x = .go f.loc (cutV f.stk 1) S.objs S.inp (S.out ++ [(tp f.stk 0).n]) := by
 unfold Mc.plain
 simp [h]

/-- What was put out stays. -/
theorem plain_out {p : Prg} {S : Mc} {f : Fm} {x : Ins} {loc stk : List Vl} {objs : List Ob} {inp out : List Int} (h : S.plain p f x = .go loc stk objs inp out) : ∃ l, out = S.out ++ l := by
 by_cases h34 : x.op = 34
 ·rw [plain_34 p S f x h34] at h
  split at h
  ·cases h
  ·cases h; exact ⟨[], by simp⟩
 ·by_cases h35 : x.op = 35
  ·rw [plain_35 p S f x h35] at h
   cases h
   exact ⟨_, rfl⟩
  ·rcases plain_same p S f x h34 h35 with ⟨t, e⟩ | ⟨l, k, o, e⟩
   ·rw [e] at h; cases h
   ·rw [e] at h
    cases h
    exact ⟨[], by simp⟩
theorem stepF_out {p : Prg} (S : Mc) (below : List Fm) (f : Fm) : ∃ l, (S.stepF p below f).out = S.out ++ l := by
 have keep : ∃ l, S.out = S.out ++ l := ⟨[], by simp⟩
 unfold Mc.stepF
 simp only
 split
 ·split
  ·exact keep
  ·split
   ·exact keep
   ·exact keep
 ·split
  ·split
   ·exact keep
   ·exact keep
  ·split
   ·split
    ·exact keep
    ·exact keep
   ·split
    ·exact keep
    ·rename_i loc stk objs inp out ha
     exact plain_out ha
theorem step_out {p : Prg} (S : Mc) : ∃ l, (S.step p).out = S.out ++ l := by
 unfold Mc.step
 split
 ·exact stepF_out S _ _
 ·exact ⟨[], by simp⟩
theorem steps_out {p : Prg} : ∀ (k : Nat) (S : Mc), ∃ l, (Mc.steps p k S).out = S.out ++ l
 | 0, S => ⟨[], by simp [Mc.steps]⟩
 | k + 1, S => by
  obtain ⟨l, h⟩ := step_out (p := p) S
  obtain ⟨m, h2⟩ := steps_out k (S.step p)
  exact ⟨l ++ m, by show (Mc.steps p k (S.step p)).out = _; rw [h2, h, List.append_assoc]⟩

/-- More fuel: the same step, or the end for want of fuel. -/
def Mc.fuelled (S : Mc) (k : Nat) : Mc := { S with fuel := S.fuel + k }
theorem step_fuel {p : Prg} (S : Mc) (k : Nat) : (S.fuelled k).step p = (S.step p).fuelled k ∨ ∃ f below, S.fin = none ∧ S.frs = f :: below ∧ S.step p = S.stop 3 0 f := by
 by_cases hfin : S.fin = none
 ·cases hf : S.frs with
  | nil =>
   left
   have e : ∀ T : Mc, T.frs = [] → T.step p = T := fun T hT => by
    unfold Mc.step
    rw [hT]
    split
    ·rename_i h1; cases h1
    ·rfl
   rw [e S hf, e (S.fuelled k) hf]
  | cons f below =>
   rw [Mc.step_on hfin hf, Mc.step_on (S := S.fuelled k) hfin hf]
   unfold Mc.stepF
   simp only
   have e : (S.fuelled k).plain p f (p.at_ f.m f.pc) = S.plain p f (p.at_ f.m f.pc) := rfl
   rw [e]
   split
   ·split
    ·left; rfl
    ·by_cases h3 : (p.at_ f.m f.pc).a ≤ f.pc ∧ S.fuel = 0
     ·right
      rw [if_pos h3]
      exact ⟨f, below, hfin, rfl, rfl⟩
     ·left
      rw [if_neg h3, if_neg]
      ·unfold Mc.fuelled Mc.put
       simp only
       congr 1
       by_cases h4 : (p.at_ f.m f.pc).a ≤ f.pc
       ·have : S.fuel ≠ 0 := fun e => h3 ⟨h4, e⟩
        rw [if_pos h4, if_pos h4]
        omega
       ·rw [if_neg h4, if_neg h4]
      ·rintro ⟨h4, h5⟩
       have : S.fuel + k = 0 := h5
       exact h3 ⟨h4, by omega⟩
   ·split
    ·by_cases h3 : S.fuel = 0
     ·right
      rw [if_pos h3]
      exact ⟨f, below, hfin, rfl, rfl⟩
     ·left
      rw [if_neg h3, if_neg]
      ·unfold Mc.fuelled
       simp only
       congr 1
       omega
      ·intro h4
       have : S.fuel + k = 0 := h4
       omega
    ·split
     ·left
      split <;> rfl
     ·left
      split <;> rfl
 ·left
  rw [Mc.step_end hfin, Mc.step_end (S := S.fuelled k) hfin]
/-- A run with more fuel. -/
theorem run_fuel {p : Prg} {ss : List Lk} (v : Vf p ss) (k : Nat) : ∀ (n : Nat) {S : Mc}, S.Ok p ss → (S.fuelled k).Ok p ss → S.mu p < n →
  (S.fuelled k).run p = (S.run p).fuelled k ∨ (∃ m : Nat, m < p.ms.length ∧ ∃ pc : Nat, (S.run p).fin = some ⟨3, 0, m, pc, 0⟩) ∧ ∃ l, ((S.fuelled k).run p).out = (S.run p).out ++ l
 | 0, _, _, _, hn => absurd hn (Nat.not_lt_zero _)
 | n + 1, S, h, h2, hn => by
  by_cases hfin : S.fin = none
  ·rw [← h.run_step v, ← h2.run_step v]
   have hs := h.step v
   rcases step_fuel (p := p) S k with e | ⟨f, below, _, hf, e⟩
   ·rw [e]
    by_cases hf2 : (S.step p).fin = none
    ·exact run_fuel v k n hs.1 (by rw [← e]; exact (h2.step v).1) (by have := hs.2 hfin hf2; omega)
    ·left
     have e1 : (S.step p).run p = S.step p := steps_fin hf2 _
     have e2 : ((S.step p).fuelled k).run p = (S.step p).fuelled k := steps_fin (S := (S.step p).fuelled k) hf2 _
     rw [e1, e2]
   ·right
    have hm := (h.top f below hf).1.m
    have e1 : (S.step p).run p = S.step p := steps_fin (by rw [e]; intro e; cases e) _
    rw [e1, e]
    refine ⟨⟨f.m, hm, f.pc, rfl⟩, ?_⟩
    obtain ⟨l, hl⟩ := step_out (p := p) (S.fuelled k)
    obtain ⟨m, hm2⟩ := steps_out (p := p) (((S.fuelled k).step p).mu p + 1) ((S.fuelled k).step p)
    exact ⟨l ++ m, by show (Mc.steps p _ _).out = S.out ++ _; rw [hm2, hl, List.append_assoc]; rfl⟩
  ·left
   have e1 : S.run p = S := steps_fin hfin _
   have e2 : (S.fuelled k).run p = S.fuelled k := steps_fin (S := S.fuelled k) hfin _
   rw [e1, e2]
end Go.Proofs.YtojobkhidlfeoaaDoor

/-! What a program means, plain: no stack of a verified program is long. -/
namespace Go.Proofs.YtojobkhidlfeoaaDoor

theorem atB_len (l : List UInt8) (i : Int) : (atB l i).length ≤ 1 := by
 unfold atB
 split <;> simp
theorem fieldL_len (cs : List ByteArray) (a b : Int) : (fieldL cs a b).length ≤ 1 := by
 unfold fieldL
 split
 ·exact atB_len _ _
 ·simp
theorem Prg.Ok.head {p : Prg} (hp : p.Ok) {j : Nat} (hj : j < p.ms.length) : (p.ms.getD j default).params.size ≤ 12 ∧ (p.ms.getD j default).ret.size ≤ 1 := by
 have h1 := hp.meth j hj
 unfold headCode at h1
 split at h1
 ·cases h1
 ·rename_i h2
  split at h1
  ·cases h1
  ·rename_i h3
   have h4 : retOk (p.ms.getD j default).ret := Decidable.byContradiction fun h => h3 (.inr (.inr (.inl h)))
   refine ⟨by omega, ?_⟩
   rw [size_list]
   unfold retOk at h4
   rcases h4 with h4 | h4 | h4 <;> rw [h4] <;> simp
def Short (o : Option (List UInt8 × List UInt8)) : Prop := ∀ pop push, o = some (pop, push) → pop.length ≤ 12
theorem short_some {a b : List UInt8} (h : a.length ≤ 12) : Short (some (a, b)) := fun pop push e => by
 injection e with e
 injection e with e _
 rw [← e]
 exact h
theorem short_none : Short none := fun _ _ e => by cases e
theorem short_if {c : Prop} [Decidable c] {a b : Option (List UInt8 × List UInt8)} (ha : c → Short a) (hb : Short b) : Short (if c then a else b) := by
 by_cases hc : c
 ·rw [if_pos hc]; exact ha hc
 ·rw [if_neg hc]; exact hb
theorem effL_len {p : Prg} {x : Ins} (hp : p.Ok) {j : Nat} (hj : j < p.ms.length) {pop push : List UInt8} (h : effL p (p.ms.getD j default) x = some (pop, push)) : pop.length ≤ 12 := by
 have h1 := hp.head hj
 have s1 := atB_len (kindsL (p.ms.getD j default)) x.a
 have s2 := fieldL_len p.cs x.a x.b
 have s3 := atB_len [lI, lR] x.a
 have hs : Short (effL p (p.ms.getD j default) x) := by
  unfold effL
  refine short_if (fun _ => short_some (by simp)) ?_
  refine short_if (fun _ => short_some (by simp)) ?_
  refine short_if (fun _ => short_some (by simp)) ?_
  refine short_if (fun _ => short_some (by simp)) ?_
  refine short_if (fun _ => short_some (by omega)) ?_
  refine short_if (fun _ => short_some (by simp)) ?_
  refine short_if (fun _ => short_some (by simp)) ?_
  refine short_if (fun _ => short_some (by simp)) ?_
  refine short_if (fun _ => short_some (by simp)) ?_
  refine short_if (fun _ => short_some (by simp)) ?_
  refine short_if (fun _ => short_some (by rw [List.length_cons]; omega)) ?_
  refine short_if (fun _ => short_some (by simp)) ?_
  refine short_if (fun _ => short_some (by simp)) ?_
  refine short_if (fun _ => short_some (by simp)) ?_
  refine short_if (fun _ => short_some (by rw [List.length_append]; simp only [List.length_cons, List.length_nil]; omega)) ?_
  refine short_if (fun _ => short_if (fun hx => short_some ?_) (short_some (by simp))) ?_
  ·have h2 := (hp.head (j := x.a.toNat) (by omega)).1
   rw [← size_list]
   exact h2
  refine short_if (fun _ => short_some (by rw [← size_list]; omega)) short_none
 exact hs _ _ h
theorem out_len {x : Ins} {t u : List UInt8} (h : (if 12 < u.length ∨ x.op = 33 ∧ u ≠ [] then (.error 108 : Except Int (List UInt8)) else .ok u) = .ok t) : u.length ≤ 12 := by
 split at h
 ·cases h
 ·rename_i h2
  omega
theorem behL_len {p : Prg} {x : Ins} (hp : p.Ok) {j : Nat} (hj : j < p.ms.length) {s t : List UInt8} (h : behL p (p.ms.getD j default) x s = .ok t) : s.length ≤ 100 := by
 unfold behL at h
 simp only at h
 split at h
 ·split at h
  ·cases h
  ·have := out_len h
   rw [List.length_append] at this
   omega
 split at h
 ·split at h
  ·cases h
  ·have := out_len h
   rw [List.length_take] at this
   omega
 split at h
 ·split at h
  ·cases h
  ·have := out_len h
   rw [List.length_append, List.length_append, List.length_take] at this
   omega
 split at h
 ·rename_i pop push he
  have := effL_len hp hj he
  split at h
  ·cases h
  split at h
  ·cases h
  ·have := out_len h
   rw [List.length_append, List.length_take] at this
   omega
 ·have := out_len h
  omega
theorem Fm.Ok.len {p : Prg} {ss : List Lk} (v : Vf p ss) {n : Nat} {f : Fm} {t : List UInt8} (h : f.Ok p ss n t) : t.length ≤ 100 := by
 have hg := look_good (by have := h.pc; omega) (v.look.look f.m h.m)
 obtain ⟨u, h1, _⟩ := hg.1.all f.pc (hg.2.2 f.pc h.seen)
 rw [h.stk] at h1
 exact behL_len v.ok h.m h1
theorem Under.len {p : Prg} {ss : List Lk} (v : Vf p ss) {n : Nat} : ∀ {fs : List Fm} {m : Nat}, Under p ss n fs m → ∀ g ∈ fs, g.stk.length ≤ 100
 | [], _, _, g, hg => by cases hg
 | f :: fs, _, h, g, hg => by
  rcases List.mem_cons.1 hg with rfl | hg
  ·have := h.1.len v
   rw [List.length_append, kds_len] at this
   omega
  ·exact Under.len v h.2 g hg
/-- No stack is long. -/
theorem Mc.Ok.len {p : Prg} {ss : List Lk} (v : Vf p ss) {S : Mc} (h : S.Ok p ss) : ∀ g ∈ S.frs, g.stk.length ≤ 100 := by
 cases hf : S.frs with
 | nil => intro g hg; cases hg
 | cons f below =>
  obtain ⟨h1, h2⟩ := h.top f below hf
  intro g hg
  rcases List.mem_cons.1 hg with rfl | hg
  ·have := h1.len v
   rw [kds_len] at this
   exact this
  ·exact h2.len v g hg
end Go.Proofs.YtojobkhidlfeoaaDoor

/-! What a program means, plain: programs whose verification is reckoned; two integers by an op. -/
namespace Go.Proofs.YtojobkhidlfeoaaDoor

/-- A program that may be, as a test. -/
def Prg.okB (p : Prg) : Bool :=
 decide (p.cs.length ≤ 12) && decide (1 ≤ p.ms.length) && decide (p.ms.length ≤ 12) &&
 (List.range p.cs.length).all (fun j => clsCode (p.cs.getD j ByteArray.empty) == 0) &&
 (List.range p.ms.length).all (fun j => headCode j (p.ms.getD j default) == 0) &&
 (List.range p.ms.length).all (fun j => (List.range (p.ms.getD j default).code.length).all fun q => insCode p.cs p.ms.length (p.ms.getD j default) ((p.ms.getD j default).code.getD q default) == 0)
theorem Prg.ok_of {p : Prg} (h : p.okB = true) : p.Ok := by
 unfold Prg.okB at h
 simp only [Bool.and_eq_true, decide_eq_true_eq, List.all_eq_true, List.mem_range, beq_iff_eq] at h
 obtain ⟨⟨⟨⟨⟨h1, h2⟩, h3⟩, h4⟩, h5⟩, h6⟩ := h
 exact ⟨h1, h2, h3, h4, h5, h6⟩
/-- What the look tells of each method. -/
def Prg.looks (p : Prg) : List Lk := p.ms.map fun m => match lookM p m with | .ok s => s | .error _ => default
def Prg.lookB (p : Prg) : Bool := p.ms.all fun m => match lookM p m with | .ok _ => true | .error _ => false
theorem Prg.looks_of {p : Prg} (h : p.lookB = true) : Looks p p.looks := by
 refine ⟨by simp [Prg.looks], fun j hj => ?_⟩
 unfold Prg.lookB at h
 rw [List.all_eq_true] at h
 have h1 := h _ (getD_mem hj)
 unfold Prg.looks
 have e0 : ∀ F : Meth → Lk, (p.ms.map F).getD j default = F (p.ms.getD j default) := fun F => by
  simp [List.getD_eq_getElem?_getD, List.getElem?_map, List.getElem?_eq_getElem hj]
 rw [e0]
 cases e : lookM p (p.ms.getD j default) with
 | ok s => rfl
 | error e2 => rw [e] at h1; cases h1
theorem Ins.bd_default : (default : Ins).bd := by unfold Ins.bd; decide
/-- All integers of a program are. -/
theorem Prg.bd_of {p : Prg} (h : ∀ m ∈ p.ms, ∀ x ∈ m.code, x.bd) : p.Bd := by
 intro m pc
 unfold Prg.at_
 by_cases hm : m < p.ms.length
 ·by_cases hp : pc < (p.ms.getD m default).code.length
  ·exact h _ (getD_mem hm) _ (getD_mem hp)
  ·rw [List.getD_eq_getElem?_getD (l := (p.ms.getD m default).code), List.getElem?_eq_none (by omega)]
   exact Ins.bd_default
 ·rw [List.getD_eq_getElem?_getD (l := p.ms), List.getElem?_eq_none (by omega)]
  exact Ins.bd_default
theorem ins_bd {op n : Int} (h : -1000 ≤ op ∧ op ≤ 1000) (hn : in64 n) : (⟨op, 0, 0, n⟩ : Ins).bd := by
 unfold in64 at hn
 unfold Ins.bd
 simp only
 omega

end Go.Proofs.YtojobkhidlfeoaaDoor

/-! What a program means, plain: where a run may end, and why; inputs behind those that were asked for. -/
namespace Go.Proofs.YtojobkhidlfeoaaDoor

/-- A trap at an instruction that may trap. -/
def TrapOk (op t : Int) : Prop := (t = 5 ∧ (op = 11 ∨ op = 12)) ∨ (t = 6 ∧ op = 34) ∨ (t = 4 ∧ op = 28) ∨ (t = 3 ∧ (op = 29 ∨ op = 30)) ∨ ((t = 1 ∨ t = 2) ∧ (op = 25 ∨ op = 26 ∨ op = 29 ∨ op = 30 ∨ op = 31))
def Mact.trapped (op : Int) : Mact → Prop
 | .trap t => TrapOk op t
 | .go .. => True
theorem trapped_ite {op : Int} {c : Prop} [Decidable c] {a b : Mact} (ha : c → a.trapped op) (hb : ¬ c → b.trapped op) : Mact.trapped op (if c then a else b) := by
 split
 ·rename_i h; exact ha h
 ·rename_i h; exact hb h
theorem touch_trapped (S : Mc) (f : Fm) (x : Ins) (ho : x.op = 25 ∨ x.op = 26 ∨ x.op = 27 ∨ x.op = 29 ∨ x.op = 30 ∨ x.op = 31) : (S.touch f x).trapped x.op := by
 unfold Mc.touch
 simp only
 refine trapped_ite (fun _ => trivial) fun h27 => ?_
 refine trapped_ite (fun _ => by unfold Mact.trapped TrapOk; omega) fun _ => ?_
 refine trapped_ite (fun _ => trapped_ite (fun _ => by unfold Mact.trapped TrapOk; omega) fun _ => trivial) fun h25 => ?_
 refine trapped_ite (fun _ => trapped_ite (fun _ => by unfold Mact.trapped TrapOk; omega) fun _ => trivial) fun h26 => ?_
 refine trapped_ite (fun _ => trapped_ite (fun _ => by unfold Mact.trapped TrapOk; omega) fun _ => trivial) fun h31 => ?_
 refine trapped_ite (fun _ => by unfold Mact.trapped TrapOk; omega) fun _ => ?_
 refine trapped_ite (fun _ => by unfold Mact.trapped TrapOk; omega) fun _ => ?_
 exact trapped_ite (fun _ => trivial) fun _ => trivial
theorem two_trap {op a b : Int} (h : (twoL op a b).2 ≠ 0) : (twoL op a b).2 = 5 ∧ (op = 11 ∨ op = 12) := by
 by_cases h11 : op = 11
 ·subst h11
  unfold twoL at *
  simp at h ⊢
  by_cases hb : b = 0
  ·simp [hb]
  ·simp [hb] at h
 ·by_cases h12 : op = 12
  ·subst h12
   unfold twoL at *
   simp at h ⊢
   by_cases hb : b = 0
   ·simp [hb]
   ·simp [hb] at h
  ·exfalso
   apply h
   unfold twoL
   rw [if_neg h11, if_neg h12]
   have pick : ∀ {c : Prop} [Decidable c] {p q : Int × Int}, p.2 = 0 → q.2 = 0 → (if c then p else q).2 = 0 := by
    intro c _ p q hp hq
    split <;> assumption
   repeat' first | rfl | refine pick ?_ ?_
theorem plain_trapped (p : Prg) (S : Mc) (f : Fm) (x : Ins) : (S.plain p f x).trapped x.op := by
 unfold Mc.plain
 simp only
 iterate 9 refine trapped_ite (fun _ => trivial) fun _ => ?_
 refine trapped_ite (fun h34 => ?_) fun _ => ?_
 ·split
  ·unfold Mact.trapped TrapOk; omega
  ·trivial
 iterate 2 refine trapped_ite (fun _ => trivial) fun _ => ?_
 refine trapped_ite (fun h28 => trapped_ite (fun _ => by unfold Mact.trapped TrapOk; omega) fun _ => trivial) fun _ => ?_
 refine trapped_ite (fun h => touch_trapped S f x h) fun _ => ?_
 refine trapped_ite (fun h => ?_) fun _ => trivial
 have := two_trap h
 unfold Mact.trapped TrapOk
 omega
/-- How a run may end. -/
def EndOk (p : Prg) (ss : List Lk) (F : Fend) : Prop :=
 (F.kind = 1 ∧ F.trap = 0 ∧ F.meth = 0 ∧ F.pc = 0) ∨
 ∃ m pc : Nat, F.meth = m ∧ F.pc = pc ∧ m < p.ms.length ∧ pc < (p.ms.getD m default).code.length ∧ (ss.getD m default).seen.getD pc false = true ∧ F.value = 0 ∧
  ((F.kind = 3 ∧ F.trap = 0 ∧ ((p.at_ m pc).op = 22 ∨ (p.at_ m pc).op = 23 ∨ (p.at_ m pc).op = 32)) ∨ (F.kind = 2 ∧ TrapOk (p.at_ m pc).op F.trap))
theorem step_end {p : Prg} {ss : List Lk} {S : Mc} (h : S.Ok p ss) (hfin : S.fin = none) {F : Fend} (e : (S.step p).fin = some F) : EndOk p ss F := by
 obtain ⟨f, below, hf⟩ := List.exists_cons_of_ne_nil (h.live hfin)
 have hfr := (h.top f below hf).1
 rw [Mc.step_on hfin hf] at e
 have stop : ∀ (k c : Int), (S.stop k c f).fin = some F → ((k = 3 ∧ c = 0 ∧ ((p.at_ f.m f.pc).op = 22 ∨ (p.at_ f.m f.pc).op = 23 ∨ (p.at_ f.m f.pc).op = 32)) ∨ (k = 2 ∧ TrapOk (p.at_ f.m f.pc).op c)) → EndOk p ss F := by
  intro k c he hk
  cases he
  exact .inr ⟨f.m, f.pc, rfl, rfl, hfr.m, hfr.pc, hfr.seen, rfl, hk⟩
 have none : S.fin = some F → EndOk p ss F := fun he => by rw [hfin] at he; cases he
 unfold Mc.stepF at e
 simp only at e
 by_cases h1 : (p.at_ f.m f.pc).op = 22 ∨ (p.at_ f.m f.pc).op = 23
 ·rw [if_pos h1] at e
  split at e
  ·exact none e
  ·split at e
   ·exact stop _ _ e (.inl ⟨rfl, rfl, by omega⟩)
   ·exact none e
 rw [if_neg h1] at e
 by_cases h2 : (p.at_ f.m f.pc).op = 32
 ·rw [if_pos h2] at e
  split at e
  ·exact stop _ _ e (.inl ⟨rfl, rfl, by omega⟩)
  ·exact none e
 rw [if_neg h2] at e
 by_cases h3 : (p.at_ f.m f.pc).op = 33
 ·rw [if_pos h3] at e
  split at e
  ·cases e
   exact .inl ⟨rfl, rfl, rfl, rfl⟩
  ·exact none e
 rw [if_neg h3] at e
 have ht := plain_trapped p S f (p.at_ f.m f.pc)
 split at e
 ·rename_i t ha
  rw [ha] at ht
  exact stop _ _ e (.inr ⟨rfl, ht⟩)
 ·exact none e
theorem run_end {p : Prg} {ss : List Lk} (v : Vf p ss) : ∀ (n : Nat) {S : Mc}, S.Ok p ss → S.mu p < n → S.fin = none → ∃ F, (S.run p).fin = some F ∧ EndOk p ss F
 | 0, _, _, hn, _ => absurd hn (Nat.not_lt_zero _)
 | n + 1, S, h, hn, hfin => by
  rw [← h.run_step v]
  cases hf2 : (S.step p).fin with
  | none => exact run_end v n (h.step v).1 (by have := (h.step v).2 hfin hf2; omega) hf2
  | some F =>
   have e1 : (S.step p).run p = S.step p := steps_fin (by rw [hf2]; intro e; cases e) _
   rw [e1]
   exact ⟨F, hf2, step_end h hfin hf2⟩

/-- More inputs behind: the same step, or the end for want of one. -/
def Mc.more (S : Mc) (l : List Int) : Mc := { S with inp := S.inp ++ l }
theorem plain_more (p : Prg) (S : Mc) (f : Fm) (x : Ins) (l : List Int) : S.plain p f x = .trap 6 ∧ x.op = 34 ∨ (S.more l).plain p f x = (match S.plain p f x with | .trap t => .trap t | .go loc stk objs inp out => .go loc stk objs (inp ++ l) out) := by
 by_cases h34 : x.op = 34
 ·rw [plain_34 p S f x h34, plain_34 p (S.more l) f x h34]
  cases hi : S.inp with
  | nil => exact .inl ⟨rfl, h34⟩
  | cons n r =>
   right
   show (match (S.inp ++ l) with | [] => Mact.trap 6 | n :: r => Mact.go f.loc (f.stk ++ [vi n]) S.objs r S.out) = _
   rw [hi]
   rfl
 ·right
  by_cases h35 : x.op = 35
  ·rw [plain_35 p S f x h35, plain_35 p (S.more l) f x h35]
   rfl
  ·have e : (S.more l).plain p f x = Mact.io (S.inp ++ l) S.out (S.plain p f x) := plain_io p S f x (S.inp ++ l) S.out h34 h35
   rw [e]
   rcases plain_same p S f x h34 h35 with ⟨t, e⟩ | ⟨a, b, c, e⟩
   ·rw [e]; rfl
   ·rw [e]; rfl
theorem step_more {p : Prg} (S : Mc) (l : List Int) : (S.more l).step p = (S.step p).more l ∨ ∃ f below, S.fin = none ∧ S.frs = f :: below ∧ S.step p = S.stop 2 6 f := by
 by_cases hfin : S.fin = none
 ·cases hf : S.frs with
  | nil =>
   left
   have e : ∀ T : Mc, T.frs = [] → T.step p = T := fun T hT => by
    unfold Mc.step
    rw [hT]
    split
    ·rename_i h1; cases h1
    ·rfl
   rw [e S hf, e (S.more l) hf]
  | cons f below =>
   rw [Mc.step_on hfin hf, Mc.step_on (S := S.more l) hfin hf]
   unfold Mc.stepF
   simp only
   split
   ·left
    split
    ·rfl
    ·have e : (S.more l).fuel = S.fuel := rfl
     rw [e]
     split
     ·rfl
     ·rfl
   ·split
    ·left
     have e : (S.more l).fuel = S.fuel := rfl
     rw [e]
     split
     ·rfl
     ·rfl
    ·split
     ·left
      split <;> rfl
     ·rcases plain_more p S f (p.at_ f.m f.pc) l with ⟨e, _⟩ | e
      ·right
       rw [e]
       exact ⟨f, below, hfin, rfl, rfl⟩
      ·left
       rw [e]
       cases S.plain p f (p.at_ f.m f.pc) with
       | trap t => rfl
       | go a b c d e => rfl
 ·left
  rw [Mc.step_end hfin, Mc.step_end (S := S.more l) hfin]
theorem run_more {p : Prg} {ss : List Lk} (v : Vf p ss) (l : List Int) : ∀ (n : Nat) {S : Mc}, S.Ok p ss → (S.more l).Ok p ss → S.mu p < n →
  (S.more l).run p = (S.run p).more l ∨ ∃ F, (S.run p).fin = some F ∧ F.trap = 6
 | 0, _, _, _, hn => absurd hn (Nat.not_lt_zero _)
 | n + 1, S, h, h2, hn => by
  by_cases hfin : S.fin = none
  ·rw [← h.run_step v, ← h2.run_step v]
   have hs := h.step v
   rcases step_more (p := p) S l with e | ⟨f, below, _, hf, e⟩
   ·rw [e]
    by_cases hf2 : (S.step p).fin = none
    ·exact run_more v l n hs.1 (by rw [← e]; exact (h2.step v).1) (by have := hs.2 hfin hf2; omega)
    ·left
     have e1 : (S.step p).run p = S.step p := steps_fin hf2 _
     have e2 : ((S.step p).more l).run p = (S.step p).more l := steps_fin (S := (S.step p).more l) hf2 _
     rw [e1, e2]
   ·right
    have e1 : (S.step p).run p = S.step p := steps_fin (by rw [e]; intro e; cases e) _
    rw [e1, e]
    exact ⟨_, rfl, rfl⟩
  ·left
   have e1 : S.run p = S := steps_fin hfin _
   have e2 : (S.more l).run p = S.more l := steps_fin (S := S.more l) hfin _
   rw [e1, e2]
end Go.Proofs.YtojobkhidlfeoaaDoor
