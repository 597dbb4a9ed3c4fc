/- What a program means, plain: straight code is verified and run piece by piece; arrays. -/
import Derived.Test.YtojobkhidlfeoaaDoorMdS
namespace Go.Proofs.YtojobkhidlfeoaaDoor

/-- The stack behind straight code. -/
def behs (p : Prg) (m : Meth) : List Ins → List UInt8 → Except Int (List UInt8)
 | [], s => .ok s
 | x :: l, s => match behL p m x s with | .ok t => behs p m l t | .error e => .error e
theorem behs_app {p : Prg} {m : Meth} {s t : List UInt8} : ∀ {a b : List Ins}, behs p m a s = .ok t → behs p m (a ++ b) s = behs p m b t := by
 intro a
 induction a generalizing s with
 | nil => intro b h; cases h; rfl
 | cons x l ih =>
  intro b h
  show (match behL p m x s with | .ok t => behs p m (l ++ b) t | .error e => .error e) = _
  have h2 : (match behL p m x s with | .ok t => behs p m l t | .error e => .error e) = .ok t := h
  cases hb : behL p m x s with
  | error e => rw [hb] at h2; cases h2
  | ok u =>
   rw [hb] at h2
   exact ih h2
theorem behs_pre {p : Prg} {m : Meth} {s t : List UInt8} : ∀ {a b : List Ins}, behs p m (a ++ b) s = .ok t → ∃ u, behs p m a s = .ok u ∧ behs p m b u = .ok t := by
 intro a
 induction a generalizing s with
 | nil => intro b h; exact ⟨s, rfl, h⟩
 | cons x l ih =>
  intro b h
  have h2 : (match behL p m x s with | .ok t => behs p m (l ++ b) t | .error e => .error e) = .ok t := h
  cases hb : behL p m x s with
  | error e => rw [hb] at h2; cases h2
  | ok u =>
   rw [hb] at h2
   obtain ⟨v, h3, h4⟩ := ih h2
   refine ⟨v, ?_, h4⟩
   show (match behL p m x s with | .ok t => behs p m l t | .error e => .error e) = _
   rw [hb]
   exact h3
/-- Straight code and an answer behind it: the look is good. -/
theorem straight_ok {p : Prg} {m : Meth} {l : List Ins} {r : Ins} {t : List UInt8} (hc : m.code = l ++ [r]) (hl : ∀ x ∈ l, x.op ≠ 22 ∧ x.op ≠ 23 ∧ x.op ≠ 33) (hr : r.op = 33) (hb : behs p m l [] = .ok t) (hb2 : behL p m r t = .ok []) : ∃ s, lookM p m = .ok s := by
 have hlen : m.code.length = l.length + 1 := by rw [hc]; simp
 have pre : ∀ i, i ≤ l.length → ∃ u, behs p m (l.take i) [] = .ok u := fun i _ => by
  rw [← List.take_append_drop i l] at hb
  obtain ⟨u, h1, _⟩ := behs_pre hb
  exact ⟨u, h1⟩
 have stv : ∀ i u, behs p m (l.take i) [] = .ok u → (match behs p m (l.take i) [] with | .ok u => u | .error _ => []) = u := fun i u h => by rw [h]
 have get : ∀ i, i < l.length → m.code.getD i default = l.getD i default := fun i hi => by
  rw [hc, List.getD_eq_getElem?_getD, List.getElem?_append_left hi, List.getD_eq_getElem?_getD]
 have row : Row p m (fun i => if i ≤ l.length then (match behs p m (l.take i) [] with | .ok u => u | .error _ => []) else []) l.length := by
  refine ⟨by omega, ?_, fun i hi => ?_, fun i hi => ?_⟩
  ·simp only [Nat.zero_le, if_true, List.take_zero]
   rfl
  ·obtain ⟨u, hu⟩ := pre i (by omega)
   obtain ⟨v, hv⟩ := pre (i + 1) (by omega)
   rw [if_pos (by omega), if_pos (by omega), stv _ _ hu, stv _ _ hv, get i hi]
   have e : l.take (i + 1) = l.take i ++ [l.getD i default] := by
    rw [List.take_succ_eq_append_getElem hi, List.getD_eq_getElem?_getD, List.getElem?_eq_getElem hi]
    rfl
   rw [e, behs_app hu] at hv
   have hv2 : (match behL p m (l.getD i default) u with | .ok t => Except.ok t | .error e => .error e) = .ok v := hv
   cases hq : behL p m (l.getD i default) u with
   | error e => rw [hq] at hv2; cases hv2
   | ok w => rw [hq] at hv2; exact hv2
  ·have hx := hl _ (getD_mem hi)
   rw [← get i hi] at hx
   exact nextL_one (by omega) hx.2.2 hx.1 hx.2.1
 have getL : m.code.getD l.length default = r := by
  rw [hc, List.getD_eq_getElem?_getD, List.getElem?_append_right (Nat.le_refl _), Nat.sub_self]
  rfl
 refine ⟨_, row.ret ?_ ?_⟩
 ·rw [if_pos (Nat.le_refl _), if_neg (by omega), getL, List.take_length, hb]
  exact hb2
 ·unfold nextL
  rw [if_pos ⟨by omega, by omega⟩]
  simp only [Int.toNat_natCast]
  rw [getL, if_pos hr]

/-- A plain instruction is done. -/
theorem step_go {p : Prg} {S : Mc} {f : Fm} {below : List Fm} {x : Ins} {loc stk : List Vl} {objs : List Ob} {inp out : List Int} (h : S.fin = none) (hf : S.frs = f :: below) (hx : p.at_ f.m f.pc = x) (hop : x.op ≠ 22 ∧ x.op ≠ 23 ∧ x.op ≠ 32 ∧ x.op ≠ 33) (ha : S.plain p f x = .go loc stk objs inp out) :
  S.step p = { S with frs := ⟨f.m, f.pc + 1, loc, stk⟩ :: below, objs := objs, inp := inp, out := out } := by
 rw [Mc.step_on h hf]
 unfold Mc.stepF
 simp only [hx]
 rw [if_neg (by omega), if_neg (by omega), if_neg (by omega), ha]
theorem step_trap {p : Prg} {S : Mc} {f : Fm} {below : List Fm} {x : Ins} {t : Int} (h : S.fin = none) (hf : S.frs = f :: below) (hx : p.at_ f.m f.pc = x) (hop : x.op ≠ 22 ∧ x.op ≠ 23 ∧ x.op ≠ 32 ∧ x.op ≠ 33) (ha : S.plain p f x = .trap t) :
  S.step p = S.stop 2 t f := by
 rw [Mc.step_on h hf]
 unfold Mc.stepF
 simp only [hx]
 rw [if_neg (by omega), if_neg (by omega), if_neg (by omega), ha]
/-- .. the machine written out. -/
theorem go1 {p : Prg} {m k : Nat} {loc stk loc' stk' : List Vl} {below : List Fm} {objs objs' : List Ob} {inp out inp' out' : List Int} {fuel : Nat} {x : Ins} (hx : p.at_ m k = x) (hop : x.op ≠ 22 ∧ x.op ≠ 23 ∧ x.op ≠ 32 ∧ x.op ≠ 33)
  (ha : Mc.plain p ⟨⟨m, k, loc, stk⟩ :: below, objs, inp, fuel, out, none⟩ ⟨m, k, loc, stk⟩ x = .go loc' stk' objs' inp' out') :
  Mc.step p ⟨⟨m, k, loc, stk⟩ :: below, objs, inp, fuel, out, none⟩ = ⟨⟨m, k + 1, loc', stk'⟩ :: below, objs', inp', fuel, out', none⟩ := step_go (S := ⟨⟨m, k, loc, stk⟩ :: below, objs, inp, fuel, out, none⟩) (f := ⟨m, k, loc, stk⟩) (below := below) rfl rfl hx hop ha
theorem trap1 {p : Prg} {m k : Nat} {loc stk : List Vl} {below : List Fm} {objs : List Ob} {inp out : List Int} {fuel : Nat} {x : Ins} {t : Int} (hx : p.at_ m k = x) (hop : x.op ≠ 22 ∧ x.op ≠ 23 ∧ x.op ≠ 32 ∧ x.op ≠ 33)
  (ha : Mc.plain p ⟨⟨m, k, loc, stk⟩ :: below, objs, inp, fuel, out, none⟩ ⟨m, k, loc, stk⟩ x = .trap t) :
  Mc.step p ⟨⟨m, k, loc, stk⟩ :: below, objs, inp, fuel, out, none⟩ = ⟨⟨m, k, loc, stk⟩ :: below, objs, inp, fuel, out, some ⟨2, t, m, k, 0⟩⟩ := step_trap (S := ⟨⟨m, k, loc, stk⟩ :: below, objs, inp, fuel, out, none⟩) (f := ⟨m, k, loc, stk⟩) (below := below) rfl rfl hx hop ha
end Go.Proofs.YtojobkhidlfeoaaDoor
