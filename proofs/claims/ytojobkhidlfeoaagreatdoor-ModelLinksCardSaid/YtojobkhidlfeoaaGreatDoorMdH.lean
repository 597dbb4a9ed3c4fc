/- What a program means, plain: a method that calls itself; the greatest words of frames. -/
import Derived.Test.YtojobkhidlfeoaaGreatDoorMdD
import Derived.Test.YtojobkhidlfeoaaGreatDoorMdQ
namespace Go.Proofs.YtojobkhidlfeoaaGreatDoor

/-- The words of frames stay below a bound for so many steps. -/
def LeW (p : Prg) (ss : List Lk) (M : Int) (k : Nat) (S : Mc) : Prop := ∀ i, i ≤ k → (Mc.steps p i S).wsum p ss ≤ M
theorem LeW.zero {p : Prg} {ss : List Lk} {M : Int} {S : Mc} (h : S.wsum p ss ≤ M) : LeW p ss M 0 S := fun i hi => by
 obtain rfl : i = 0 := by omega
 exact h
theorem LeW.cons {p : Prg} {ss : List Lk} {M : Int} {S : Mc} {k : Nat} (h : S.wsum p ss ≤ M) (h2 : LeW p ss M k (S.step p)) : LeW p ss M (k + 1) S := fun i hi => by
 cases i with
 | zero => exact h
 | succ i => exact h2 i (by omega)
theorem LeW.add {p : Prg} {ss : List Lk} {M : Int} {S : Mc} {a b : Nat} (h : LeW p ss M a S) (h2 : LeW p ss M b (Mc.steps p a S)) : LeW p ss M (a + b) S := fun i hi => by
 by_cases hia : i ≤ a
 ·exact h i hia
 ·have h3 := h2 (i - a) (by omega)
  rw [← steps_add, show a + (i - a) = i by omega] at h3
  exact h3
theorem LeW.mono {p : Prg} {ss : List Lk} {M M' : Int} {S : Mc} {k : Nat} (h : LeW p ss M k S) (hm : M ≤ M') : LeW p ss M' k S := fun i hi => Int.le_trans (h i hi) hm
theorem pkF_le {p : Prg} {ss : List Lk} {M : Int} {S : Mc} (hM : 0 ≤ M) : ∀ {k : Nat}, LeW p ss M k S → Mc.pkF p ss k S ≤ M
 | 0, h => by
  show max 0 (S.wsum p ss) ≤ M
  have := h 0 (Nat.le_refl _)
  have e : Mc.steps p 0 S = S := rfl
  rw [e] at this
  omega
 | k + 1, h => by
  show max (Mc.pkF p ss k S) ((Mc.steps p (k + 1) S).wsum p ss) ≤ M
  have h1 := pkF_le hM (k := k) (fun i hi => h i (by omega))
  have h2 := h (k + 1) (Nat.le_refl _)
  omega
theorem pkF_ge {p : Prg} {ss : List Lk} {S : Mc} : ∀ {k : Nat} (j : Nat), j ≤ k → (Mc.steps p j S).wsum p ss ≤ Mc.pkF p ss k S
 | 0, j, h => by
  obtain rfl : j = 0 := by omega
  show S.wsum p ss ≤ max 0 (S.wsum p ss)
  omega
 | k + 1, j, h => by
  show _ ≤ max (Mc.pkF p ss k S) ((Mc.steps p (k + 1) S).wsum p ss)
  by_cases hj : j ≤ k
  ·have := pkF_ge (p := p) (ss := ss) (S := S) j hj
   omega
  ·obtain rfl : j = k + 1 := by omega
   omega
theorem pkF_is {p : Prg} {ss : List Lk} {M : Int} {S : Mc} {k : Nat} (h : LeW p ss M k S) (hM : 0 ≤ M) (j : Nat) (hj : j ≤ k) (e : (Mc.steps p j S).wsum p ss = M) : Mc.pkF p ss k S = M := by
 have h1 := pkF_le hM h
 have h2 := pkF_ge (p := p) (ss := ss) (S := S) j hj
 omega
theorem pkF_stay {p : Prg} {ss : List Lk} {S : Mc} {k : Nat} (h : (Mc.steps p k S).fin ≠ none) : ∀ j, Mc.pkF p ss (k + j) S = Mc.pkF p ss k S
 | 0 => rfl
 | j + 1 => by
  have h2 : Mc.steps p (k + j + 1) S = Mc.steps p k S := by rw [show k + j + 1 = k + (j + 1) by omega, steps_add, steps_fin h]
  show max (Mc.pkF p ss (k + j) S) ((Mc.steps p (k + j + 1) S).wsum p ss) = _
  rw [h2, pkF_stay h j]
  have := pkF_ge (p := p) (ss := ss) (S := S) k (Nat.le_refl k)
  omega
/-- Whatever the count of steps, once it has ended. -/
theorem pkF_end {p : Prg} {ss : List Lk} {S : Mc} {a b : Nat} (ha : (Mc.steps p a S).fin ≠ none) (hb : (Mc.steps p b S).fin ≠ none) : Mc.pkF p ss a S = Mc.pkF p ss b S := by
 by_cases h : a ≤ b
 ·have := pkF_stay (ss := ss) ha (b - a)
  rw [show a + (b - a) = b by omega] at this
  exact this.symm
 ·have := pkF_stay (ss := ss) hb (a - b)
  rw [show b + (a - b) = a by omega] at this
  exact this
theorem pkO_end {p : Prg} {S : Mc} {a b : Nat} (ha : (Mc.steps p a S).fin ≠ none) (hb : (Mc.steps p b S).fin ≠ none) : Mc.pkO p a S = Mc.pkO p b S := by
 by_cases h : a ≤ b
 ·have := pkO_stay ha (b - a)
  rw [show a + (b - a) = b by omega] at this
  exact this.symm
 ·have := pkO_stay hb (a - b)
  rw [show b + (a - b) = a by omega] at this
  exact this

theorem steps_cons {p : Prg} {S T : Mc} (h : S.step p = T) (k : Nat) : Mc.steps p (k + 1) S = Mc.steps p k T := by
 show Mc.steps p k (S.step p) = _
 rw [h]
/-- Zero, the value is not. -/
theorem zero_fall {p : Prg} {m k : Nat} {loc stk : List Vl} {below : List Fm} {objs : List Ob} {inp out : List Int} {fuel : Nat} {x : Ins} (hx : p.at_ m k = x) (h : x.op = 23) (hn : (tp stk 0).n ≠ 0) :
  Mc.step p ⟨⟨m, k, loc, stk⟩ :: below, objs, inp, fuel, out, none⟩ = ⟨⟨m, k + 1, loc, cutV stk 1⟩ :: below, objs, inp, fuel, out, none⟩ := by
 rw [Mc.step_on (S := ⟨⟨m, k, loc, stk⟩ :: below, objs, inp, fuel, out, none⟩) (f := ⟨m, k, loc, stk⟩) (below := below) rfl rfl]
 unfold Mc.stepF
 simp only [hx]
 rw [if_pos (.inr h), if_pos ⟨h, hn⟩]
 rfl
theorem zero_jump {p : Prg} {m k : Nat} {loc stk : List Vl} {below : List Fm} {objs : List Ob} {inp out : List Int} {fuel : Nat} {x : Ins} (hx : p.at_ m k = x) (h : x.op = 23) (hn : (tp stk 0).n = 0) (ha : ¬ x.a ≤ k) :
  Mc.step p ⟨⟨m, k, loc, stk⟩ :: below, objs, inp, fuel, out, none⟩ = ⟨⟨m, x.a.toNat, loc, cutV stk 1⟩ :: below, objs, inp, fuel, out, none⟩ := by
 rw [Mc.step_on (S := ⟨⟨m, k, loc, stk⟩ :: below, objs, inp, fuel, out, none⟩) (f := ⟨m, k, loc, stk⟩) (below := below) rfl rfl]
 unfold Mc.stepF
 simp only [hx]
 rw [if_pos (.inr h), if_neg (fun e => e.2 hn), if_neg (fun e => ha e.1), if_pos h, if_neg ha]
 rfl
theorem ins_bd2 {op a b n : Int} (h : -1000 ≤ op ∧ op ≤ 1000) (ha : -1000 ≤ a ∧ a ≤ 1000) (hb : -1000 ≤ b ∧ b ≤ 1000) (hn : in64 n) : (⟨op, a, b, n⟩ : Ins).bd := by
 unfold in64 at hn
 unfold Ins.bd
 simp only
 omega

def callP (n x : Int) : Prg := ⟨[], [⟨ByteArray.empty, ByteArray.empty, bs [73], [⟨1, 0, 0, n⟩, ⟨1, 0, 0, x⟩, ⟨32, 1, 0, 0⟩, ⟨33, 0, 0, 0⟩]⟩,
 ⟨bs [73, 73], ByteArray.empty, bs [73], [⟨3, 0, 0, 0⟩, ⟨23, 8, 0, 0⟩, ⟨3, 0, 0, 0⟩, ⟨1, 0, 0, 1⟩, ⟨9, 0, 0, 0⟩, ⟨3, 1, 0, 0⟩, ⟨32, 1, 0, 0⟩, ⟨33, 0, 0, 0⟩, ⟨3, 1, 0, 0⟩, ⟨33, 0, 0, 0⟩]⟩]⟩
theorem callP_bd {n x : Int} (hn : in64 n) (hx : in64 x) : (callP n x).Bd := by
 refine Prg.bd_of ?_
 intro m hm y hy
 simp only [callP, List.mem_cons, List.not_mem_nil, or_false] at hm
 have h1 : in64 1 := by unfold in64; omega
 rcases hm with rfl | rfl
 ·simp only [List.mem_cons, List.not_mem_nil, or_false] at hy
  rcases hy with rfl | rfl | rfl | rfl
  ·exact ins_bd2 (by omega) (by omega) (by omega) hn
  ·exact ins_bd2 (by omega) (by omega) (by omega) hx
  ·exact ins_bd2 (by omega) (by omega) (by omega) in_0
  ·exact ins_bd2 (by omega) (by omega) (by omega) in_0
 ·simp only [List.mem_cons, List.not_mem_nil, or_false] at hy
  rcases hy with rfl | rfl | rfl | rfl | rfl | rfl | rfl | rfl | rfl | rfl
  all_goals first | exact ins_bd2 (by omega) (by omega) (by omega) in_0 | exact ins_bd2 (by omega) (by omega) (by omega) h1
theorem callP_ok {n x : Int} (hn : in64 n) (hx : in64 x) : Vf (callP n x) (callP n x).looks :=
 ⟨Prg.ok_of (by kernel_rfl), Prg.looks_of (by kernel_rfl), callP_bd hn hx⟩

/-- The frames beneath. -/
def belowC (n x : Int) : Nat → List Fm
 | 0 => [⟨0, 3, [], []⟩]
 | d + 1 => ⟨1, 7, [vi (n - d), vi x], []⟩ :: belowC n x d
def wB (p : Prg) (ss : List Lk) (B : List Fm) : Int := (B.map fun f => p.fw ss f.m).sum
theorem wB_below (p : Prg) (ss : List Lk) (n x : Int) : ∀ i : Nat, wB p ss (belowC n x i) = i * p.fw ss 1 + p.fw ss 0
 | 0 => by
  show p.fw ss 0 + 0 = _
  simp
 | i + 1 => by
  show p.fw ss 1 + wB p ss (belowC n x i) = _
  rw [wB_below p ss n x i, Int.natCast_succ, Int.add_mul]
  omega
theorem wsum_on (p : Prg) (ss : List Lk) (f : Fm) (B : List Fm) (objs : List Ob) (inp out : List Int) (fuel : Nat) (F : Option Fend) : Mc.wsum p ss ⟨f :: B, objs, inp, fuel, out, F⟩ = p.fw ss f.m + wB p ss B := rfl
abbrev callS (B : List Fm) (pc : Nat) (loc stk : List Vl) (F : Nat) : Mc := ⟨⟨1, pc, loc, stk⟩ :: B, [], [], F, [], none⟩
theorem call_down {n x a : Int} {B : List Fm} {F : Nat} (ha : a ≠ 0) (hw : IntKind.i64.wrap (a - 1) = a - 1) (ss : List Lk) :
  Mc.steps (callP n x) 6 (callS B 0 [vi a, vi x] [] F) = callS B 6 [vi a, vi x] [vi (a - 1), vi x] F ∧ LeW (callP n x) ss ((callP n x).fw ss 1 + wB (callP n x) ss B) 6 (callS B 0 [vi a, vi x] [] F) := by
 have e1 : Mc.step (callP n x) (callS B 0 [vi a, vi x] [] F) = callS B 1 [vi a, vi x] [vi a] F := by kernel_rfl
 have e2 : Mc.step (callP n x) (callS B 1 [vi a, vi x] [vi a] F) = callS B 2 [vi a, vi x] [] F := zero_fall (x := ⟨23, 8, 0, 0⟩) rfl rfl ha
 have e3 : Mc.step (callP n x) (callS B 2 [vi a, vi x] [] F) = callS B 3 [vi a, vi x] [vi a] F := by kernel_rfl
 have e4 : Mc.step (callP n x) (callS B 3 [vi a, vi x] [vi a] F) = callS B 4 [vi a, vi x] [vi a, vi 1] F := by kernel_rfl
 have e5 : Mc.step (callP n x) (callS B 4 [vi a, vi x] [vi a, vi 1] F) = callS B 5 [vi a, vi x] [vi (IntKind.i64.wrap (a - 1))] F := by kernel_rfl
 rw [hw] at e5
 have e6 : Mc.step (callP n x) (callS B 5 [vi a, vi x] [vi (a - 1)] F) = callS B 6 [vi a, vi x] [vi (a - 1), vi x] F := by kernel_rfl
 refine ⟨?_, ?_⟩
 ·rw [steps_cons e1, steps_cons e2, steps_cons e3, steps_cons e4, steps_cons e5, steps_cons e6]
  rfl
 ·refine LeW.cons (Int.le_of_eq (wsum_on _ _ _ _ _ _ _ _ _)) ?_
  rw [e1]
  refine LeW.cons (Int.le_of_eq (wsum_on _ _ _ _ _ _ _ _ _)) ?_
  rw [e2]
  refine LeW.cons (Int.le_of_eq (wsum_on _ _ _ _ _ _ _ _ _)) ?_
  rw [e3]
  refine LeW.cons (Int.le_of_eq (wsum_on _ _ _ _ _ _ _ _ _)) ?_
  rw [e4]
  refine LeW.cons (Int.le_of_eq (wsum_on _ _ _ _ _ _ _ _ _)) ?_
  rw [e5]
  refine LeW.cons (Int.le_of_eq (wsum_on _ _ _ _ _ _ _ _ _)) ?_
  rw [e6]
  exact LeW.zero (Int.le_of_eq (wsum_on _ _ _ _ _ _ _ _ _))
theorem call_call {n x a : Int} {B : List Fm} {F : Nat} : Mc.step (callP n x) (callS B 6 [vi a, vi x] [vi (a - 1), vi x] (F + 1)) = callS (⟨1, 7, [vi a, vi x], []⟩ :: B) 0 [vi (a - 1), vi x] [] F := by kernel_rfl
theorem call_stop {n x a : Int} {B : List Fm} : Mc.step (callP n x) (callS B 6 [vi a, vi x] [vi (a - 1), vi x] 0) = ⟨⟨1, 6, [vi a, vi x], [vi (a - 1), vi x]⟩ :: B, [], [], 0, [], some ⟨3, 0, 1, 6, 0⟩⟩ := by kernel_rfl
/-- So many calls are begun. -/
def callC (n x : Int) (F i : Nat) : Mc := callS (belowC n x i) 0 [vi (n - i), vi x] [] (F - (i + 1))
theorem fw_nn (p : Prg) (ss : List Lk) (m : Nat) (h : 0 ≤ (ss.getD m default).most) : 0 ≤ p.fw ss m := by
 unfold Prg.fw
 omega
theorem call_reach {n : Nat} {x : Int} {F : Nat} (hn : n < 150) (ss : List Lk) (h1 : 0 ≤ (callP n x).fw ss 1) : ∀ i : Nat, i ≤ n → i + 1 ≤ F →
  Mc.steps (callP n x) (3 + 7 * i) (Mc.new (callP n x) [] F) = callC n x F i ∧ LeW (callP n x) ss ((callP n x).fw ss 1 + (i * (callP n x).fw ss 1 + (callP n x).fw ss 0)) (3 + 7 * i) (Mc.new (callP n x) [] F)
 | 0, _, hF => by
  obtain ⟨F, rfl⟩ : ∃ G, F = G + 1 := ⟨F - 1, by omega⟩
  have e0 : Mc.new (callP n x) [] (F + 1) = ⟨⟨0, 0, [], []⟩ :: [], [], [], F + 1, [], none⟩ := by kernel_rfl
  have e1 : Mc.step (callP n x) ⟨⟨0, 0, [], []⟩ :: [], [], [], F + 1, [], none⟩ = ⟨⟨0, 1, [], [vi n]⟩ :: [], [], [], F + 1, [], none⟩ := by kernel_rfl
  have e2 : Mc.step (callP n x) ⟨⟨0, 1, [], [vi n]⟩ :: [], [], [], F + 1, [], none⟩ = ⟨⟨0, 2, [], [vi n, vi x]⟩ :: [], [], [], F + 1, [], none⟩ := by kernel_rfl
  have e3 : Mc.step (callP n x) ⟨⟨0, 2, [], [vi n, vi x]⟩ :: [], [], [], F + 1, [], none⟩ = callS (belowC n x 0) 0 [vi n, vi x] [] F := by kernel_rfl
  have e4 : callC n x (F + 1) 0 = callS (belowC n x 0) 0 [vi n, vi x] [] F := by
   unfold callC
   simp
  have hw : wB (callP n x) ss [] = 0 := rfl
  refine ⟨?_, ?_⟩
  ·rw [e4, ← e3, ← e2, ← e1, ← e0]
   rfl
  ·rw [e0]
   refine LeW.cons (by rw [wsum_on, hw]; simp; omega) ?_
   rw [e1]
   refine LeW.cons (by rw [wsum_on, hw]; simp; omega) ?_
   rw [e2]
   refine LeW.cons (by rw [wsum_on, hw]; simp; omega) ?_
   rw [e3]
   refine LeW.zero ?_
   rw [wsum_on, wB_below]
   exact Int.le_refl _
 | i + 1, hi, hF => by
  obtain ⟨ih1, ih2⟩ := call_reach (F := F) hn ss h1 i (by omega) (by omega)
  have hsub : F - (i + 1) = (F - (i + 1 + 1)) + 1 := by omega
  have hd := call_down (n := n) (x := x) (a := (n : Int) - i) (B := belowC n x i) (F := F - (i + 1)) (by omega) (IntWalk.i64_in _ (by omega)) ss
  have e7 : callC n x F (i + 1) = callS (⟨1, 7, [vi ((n : Int) - i), vi x], []⟩ :: belowC n x i) 0 [vi ((n : Int) - i - 1), vi x] [] (F - (i + 1 + 1)) := by
   unfold callC
   rw [show (n : Int) - ((i + 1 : Nat) : Int) = (n : Int) - i - 1 by omega]
   rfl
  have es : Mc.steps (callP n x) 7 (callC n x F i) = callC n x F (i + 1) := by
   rw [show (7 : Nat) = 6 + 1 from rfl, steps_add]
   unfold callC at *
   rw [hd.1, hsub, steps_cons call_call]
   exact e7.symm
  refine ⟨?_, ?_⟩
  ·rw [show 3 + 7 * (i + 1) = 3 + 7 * i + 7 by omega, steps_add, ih1, es]
  ·rw [show 3 + 7 * (i + 1) = 3 + 7 * i + (6 + 1) by omega]
   have hm : (callP n x).fw ss 1 + (i * (callP n x).fw ss 1 + (callP n x).fw ss 0) ≤ (callP n x).fw ss 1 + (((i + 1 : Nat) : Int) * (callP n x).fw ss 1 + (callP n x).fw ss 0) := by
    rw [Int.natCast_succ, Int.add_mul]
    omega
   refine LeW.add (ih2.mono hm) ?_
   rw [ih1]
   refine LeW.add ?_ ?_
   ·have h2 := hd.2
    rw [wB_below] at h2
    exact h2.mono hm
   ·have e6 : Mc.steps (callP n x) 6 (callC n x F i) = callS (belowC n x i) 6 [vi ((n : Int) - i), vi x] [vi ((n : Int) - i - 1), vi x] (F - (i + 1)) := hd.1
    rw [e6, hsub]
    refine LeW.cons ?_ ?_
    ·rw [wsum_on, wB_below]
     exact hm
    ·rw [call_call, ← e7]
     refine LeW.zero ?_
     unfold callC
     rw [wsum_on, wB_below]
     exact Int.le_refl _
/-- All calls come back. -/
theorem call_up {n x : Int} (ss : List Lk) (h1 : 0 ≤ (callP n x).fw ss 1) (h0 : 0 ≤ (callP n x).fw ss 0) : ∀ (j : Nat) {pc F : Nat} {loc : List Vl}, (callP n x).at_ 1 pc = ⟨33, 0, 0, 0⟩ →
  Mc.steps (callP n x) (j + 2) (callS (belowC n x j) pc loc [vi x] F) = ⟨[], [], [], F, [], some ⟨1, 0, 0, 0, x⟩⟩ ∧ LeW (callP n x) ss ((callP n x).fw ss 1 + (j * (callP n x).fw ss 1 + (callP n x).fw ss 0)) (j + 2) (callS (belowC n x j) pc loc [vi x] F) := by
 have ret : ∀ {g : Fm} {B : List Fm} {pc F : Nat} {loc : List Vl}, (callP n x).at_ 1 pc = ⟨33, 0, 0, 0⟩ → Mc.step (callP n x) (callS (g :: B) pc loc [vi x] F) = ⟨{ g with stk := g.stk ++ [vi x] } :: B, [], [], F, [], none⟩ := by
  intro g B pc F loc h
  rw [Mc.step_on (S := callS (g :: B) pc loc [vi x] F) (f := ⟨1, pc, loc, [vi x]⟩) (below := g :: B) rfl rfl]
  unfold Mc.stepF
  simp only [h]
  rfl
 intro j
 induction j with
 | zero =>
  intro pc F loc h
  have e1 : Mc.step (callP n x) (callS (belowC n x 0) pc loc [vi x] F) = ⟨⟨0, 3, [], [vi x]⟩ :: [], [], [], F, [], none⟩ := ret h
  have e2 : Mc.step (callP n x) ⟨⟨0, 3, [], [vi x]⟩ :: [], [], [], F, [], none⟩ = ⟨[], [], [], F, [], some ⟨1, 0, 0, 0, x⟩⟩ := by kernel_rfl
  refine ⟨?_, ?_⟩
  ·rw [steps_cons e1, steps_cons e2]
   rfl
  ·refine LeW.cons ?_ ?_
   ·rw [wsum_on, wB_below]
    exact Int.le_refl _
   rw [e1]
   refine LeW.cons ?_ ?_
   ·rw [wsum_on]
    show _ + (0 : Int) ≤ _
    simp
    omega
   rw [e2]
   refine LeW.zero ?_
   show (0 : Int) ≤ _
   simp
   omega
 | succ j ih =>
  intro pc F loc h
  have e1 : Mc.step (callP n x) (callS (belowC n x (j + 1)) pc loc [vi x] F) = callS (belowC n x j) 7 [vi (n - j), vi x] [vi x] F := ret h
  obtain ⟨i1, i2⟩ := ih (pc := 7) (F := F) (loc := [vi (n - j), vi x]) rfl
  have hm : (callP n x).fw ss 1 + (j * (callP n x).fw ss 1 + (callP n x).fw ss 0) ≤ (callP n x).fw ss 1 + (((j + 1 : Nat) : Int) * (callP n x).fw ss 1 + (callP n x).fw ss 0) := by
   rw [Int.natCast_succ, Int.add_mul]
   omega
  refine ⟨?_, ?_⟩
  ·rw [show j + 1 + 2 = (j + 2) + 1 by omega, steps_cons e1, i1]
  ·refine LeW.cons ?_ ?_
   ·rw [wsum_on, wB_below]
    exact Int.le_refl _
   rw [e1]
   exact i2.mono hm
/-- What comes of it, and how deep it stood. -/
theorem call_run {n F : Nat} {x : Int} (hn : n < 150) (hF : F < 300) (hx : in64 x) :
  let p := callP n x
  let ss := p.looks
  ((Mc.new p [] F).run p).out = [] ∧
  ((Mc.new p [] F).run p).fin = some (if n + 1 ≤ F then ⟨1, 0, 0, 0, x⟩ else if F = 0 then ⟨3, 0, 0, 2, 0⟩ else ⟨3, 0, 1, 6, 0⟩) ∧
  ∃ k, (Mc.steps p k (Mc.new p [] F)).fin ≠ none ∧ Mc.pkF p ss k (Mc.new p [] F) = p.fw ss 0 + ((min (n + 1) F : Nat) : Int) * p.fw ss 1 := by
 intro p ss
 have v : Vf p ss := callP_ok (by unfold in64; omega) hx
 have h0 := Mc.Ok.new v (inp := []) (fuel := F) (by simp) (by omega)
 have w1 : 0 ≤ p.fw ss 1 := fw_nn p ss 1 (by
  have e : (ss.getD 1 default).most = ((callP 0 0).looks.getD 1 default).most := by
   show ((callP n x).looks.getD 1 default).most = _
   kernel_rfl
  rw [e]
  decide +kernel)
 have w0 : 0 ≤ p.fw ss 0 := fw_nn p ss 0 (by
  have e : (ss.getD 0 default).most = ((callP 0 0).looks.getD 0 default).most := by
   show ((callP n x).looks.getD 0 default).most = _
   kernel_rfl
  rw [e]
  decide +kernel)
 have key : ∃ k T, Mc.steps p k (Mc.new p [] F) = T ∧ T.out = [] ∧ T.fin = some (if n + 1 ≤ F then ⟨1, 0, 0, 0, x⟩ else if F = 0 then ⟨3, 0, 0, 2, 0⟩ else ⟨3, 0, 1, 6, 0⟩) ∧ Mc.pkF p ss k (Mc.new p [] F) = p.fw ss 0 + ((min (n + 1) F : Nat) : Int) * p.fw ss 1 := by
  by_cases c1 : n + 1 ≤ F
  ·obtain ⟨r1, r2⟩ := call_reach (F := F) (x := x) hn ss w1 n (Nat.le_refl _) c1
   have e0 : callC n x F n = callS (belowC n x n) 0 [vi 0, vi x] [] (F - (n + 1)) := by
    unfold callC
    rw [Int.sub_self]
   rw [e0] at r1
   generalize hG : F - (n + 1) = G at r1
   have s1 : Mc.step p (callS (belowC n x n) 0 [vi 0, vi x] [] G) = callS (belowC n x n) 1 [vi 0, vi x] [vi 0] G := by kernel_rfl
   have s2 : Mc.step p (callS (belowC n x n) 1 [vi 0, vi x] [vi 0] G) = callS (belowC n x n) 8 [vi 0, vi x] [] G := zero_jump (x := ⟨23, 8, 0, 0⟩) rfl rfl rfl (by decide)
   have s3 : Mc.step p (callS (belowC n x n) 8 [vi 0, vi x] [] G) = callS (belowC n x n) 9 [vi 0, vi x] [vi x] G := by kernel_rfl
   obtain ⟨u1, u2⟩ := call_up (n := n) (x := x) ss w1 w0 n (pc := 9) (F := G) (loc := [vi 0, vi x]) rfl
   have ss3 : Mc.steps p 3 (callS (belowC n x n) 0 [vi 0, vi x] [] G) = callS (belowC n x n) 9 [vi 0, vi x] [vi x] G := by
    rw [steps_cons s1, steps_cons s2, steps_cons s3]
    rfl
   have hl : LeW p ss (p.fw ss 1 + (n * p.fw ss 1 + p.fw ss 0)) (3 + 7 * n + (3 + (n + 2))) (Mc.new p [] F) := by
    refine LeW.add r2 ?_
    rw [r1]
    refine LeW.add ?_ ?_
    ·refine LeW.cons ?_ ?_
     ·rw [wsum_on, wB_below]; exact Int.le_refl _
     rw [s1]
     refine LeW.cons ?_ ?_
     ·rw [wsum_on, wB_below]; exact Int.le_refl _
     rw [s2]
     refine LeW.cons ?_ ?_
     ·rw [wsum_on, wB_below]; exact Int.le_refl _
     rw [s3]
     refine LeW.zero ?_
     rw [wsum_on, wB_below]; exact Int.le_refl _
    ·rw [ss3]
     exact u2
   refine ⟨3 + 7 * n + (3 + (n + 2)), _, by rw [steps_add, r1, steps_add, ss3, u1], rfl, by rw [if_pos c1], ?_⟩
   rw [show min (n + 1) F = n + 1 by omega]
   have := pkF_is hl (by have := Int.mul_nonneg (Int.natCast_nonneg n) w1; omega) (3 + 7 * n) (by omega) (by rw [r1, wsum_on, wB_below])
   rw [this, Int.natCast_succ, Int.add_mul]
   omega
  ·by_cases c2 : F = 0
   ·subst c2
    have e0 : Mc.new p [] 0 = ⟨⟨0, 0, [], []⟩ :: [], [], [], 0, [], none⟩ := by kernel_rfl
    have e1 : Mc.step p ⟨⟨0, 0, [], []⟩ :: [], [], [], 0, [], none⟩ = ⟨⟨0, 1, [], [vi n]⟩ :: [], [], [], 0, [], none⟩ := by kernel_rfl
    have e2 : Mc.step p ⟨⟨0, 1, [], [vi n]⟩ :: [], [], [], 0, [], none⟩ = ⟨⟨0, 2, [], [vi n, vi x]⟩ :: [], [], [], 0, [], none⟩ := by kernel_rfl
    have e3 : Mc.step p ⟨⟨0, 2, [], [vi n, vi x]⟩ :: [], [], [], 0, [], none⟩ = ⟨⟨0, 2, [], [vi n, vi x]⟩ :: [], [], [], 0, [], some ⟨3, 0, 0, 2, 0⟩⟩ := by kernel_rfl
    have hw : wB p ss [] = 0 := rfl
    have ww : ∀ (k : Nat) (s : List Vl) (F : Option Fend), Mc.wsum p ss ⟨⟨0, k, [], s⟩ :: [], [], [], 0, [], F⟩ = p.fw ss 0 := fun k s F => by
     rw [wsum_on, hw]
     show p.fw ss 0 + 0 = _
     omega
    have hl : LeW p ss (p.fw ss 0) 3 (Mc.new p [] 0) := by
     rw [e0]
     refine LeW.cons (Int.le_of_eq (ww _ _ _)) ?_
     rw [e1]
     refine LeW.cons (Int.le_of_eq (ww _ _ _)) ?_
     rw [e2]
     refine LeW.cons (Int.le_of_eq (ww _ _ _)) ?_
     rw [e3]
     exact LeW.zero (Int.le_of_eq (ww _ _ _))
    refine ⟨3, ⟨⟨0, 2, [], [vi n, vi x]⟩ :: [], [], [], 0, [], some ⟨3, 0, 0, 2, 0⟩⟩, ?_, rfl, by rw [if_neg c1, if_pos rfl], ?_⟩
    ·rw [e0, steps_cons e1, steps_cons e2, steps_cons e3]
     rfl
    ·rw [pkF_is hl w0 0 (by omega) (by rw [show Mc.steps p 0 (Mc.new p [] 0) = Mc.new p [] 0 from rfl, e0]; exact ww _ _ _), Nat.min_eq_right (by omega)]
     simp
   ·obtain ⟨i, hi⟩ : ∃ i, F = i + 1 := ⟨F - 1, by omega⟩
    obtain ⟨r1, r2⟩ := call_reach (F := F) (x := x) hn ss w1 i (by omega) (by omega)
    have hd := call_down (n := n) (x := x) (a := (n : Int) - i) (B := belowC n x i) (F := 0) (by omega) (IntWalk.i64_in _ (by omega)) ss
    have e0 : callC n x F i = callS (belowC n x i) 0 [vi ((n : Int) - i), vi x] [] 0 := by
     unfold callC
     rw [hi, Nat.sub_self]
    rw [e0] at r1
    have hl : LeW p ss (p.fw ss 1 + (i * p.fw ss 1 + p.fw ss 0)) (3 + 7 * i + (6 + 1)) (Mc.new p [] F) := by
     refine LeW.add r2 ?_
     rw [r1]
     refine LeW.add ?_ ?_
     ·have := hd.2
      rw [wB_below] at this
      exact this
     ·rw [hd.1]
      refine LeW.cons ?_ ?_
      ·rw [wsum_on, wB_below]; exact Int.le_refl _
      rw [call_stop]
      refine LeW.zero ?_
      rw [wsum_on, wB_below]; exact Int.le_refl _
    refine ⟨3 + 7 * i + (6 + 1), ⟨⟨1, 6, [vi ((n : Int) - i), vi x], [vi ((n : Int) - i - 1), vi x]⟩ :: belowC n x i, [], [], 0, [], some ⟨3, 0, 1, 6, 0⟩⟩, ?_, rfl, by rw [if_neg c1, if_neg c2], ?_⟩
    ·rw [steps_add, r1, steps_add, hd.1, steps_cons call_stop]
     rfl
    rw [show min (n + 1) F = i + 1 by omega]
    have := pkF_is hl (by have := Int.mul_nonneg (Int.natCast_nonneg i) w1; omega) (3 + 7 * i) (by omega) (by rw [r1, wsum_on, wB_below])
    rw [this, Int.natCast_succ, Int.add_mul]
    omega
 obtain ⟨k, T, hT, h1, h2, h3⟩ := key
 have hk : (Mc.steps p k (Mc.new p [] F)).fin ≠ none := by rw [hT, h2]; intro e; cases e
 have hr := h0.run_is v hk
 rw [hT] at hr
 refine ⟨by rw [← hr]; exact h1, by rw [← hr]; exact h2, k, hk, h3⟩
end Go.Proofs.YtojobkhidlfeoaaGreatDoor
