/- An api.Program that comes in, opened: its classes, its methods and their code. A []api.Instr that comes in. An api.Program that comes in, opened: at whatever bound. -/
import Derived.Test.YtbcoejmiihgfoaaDoorFrame
import Derived.Test.YtbcoejmiihgfoaaDoorPrg
import Derived.Deep.Fields
import Derived.Deep.Strs
/-! An api.Program that comes in, opened: its classes, its methods and their code. A []api.Instr that comes in. -/
/-! An api.Program that comes in, opened: its classes, its methods and their code. -/
namespace Go.Proofs.YtbcoejmiihgfoaaDoor
open Go.RowKit Go.ChangeShapes Go.WideShapes Go.Deep

section
variable {H : Type} {enc : TypeId × Value → H} {P : Program} {w : World} {base : Nat} {spare : Nat → Bool} {held : Bool}
/-- A slice of structs of one-cell fields, opened at every field. -/
theorem open_rows {t e : TypeId} {fs : Array Field} {fuel : Nat} {cs : List Value} {x : DataW H × List MemPlace} (ht : P.underlying t = some (.slice e)) (he : P.underlying e = some (.struct fs))
  (hone : oneCellFields P fs = true) (hC : P.cellsOf e = fs.size) (h : DataW.trod enc P w base spare held fuel t cs = some x) :
  ∃ (a : Option Addr) (len cap : Nat), cs = [.slice a len cap] ∧ (a = none → cap = 0) ∧ len ≤ cap ∧ cap ≤ maxLen ∧
   ∀ i, i < len → ∃ a0, a = some a0 ∧ ∀ (j : Nat) (f : Field), fs[j]? = some f → ∃ (n : Nat) (v : Value) (y : DataW H × List MemPlace), w.cell? (a0.add (i * fs.size + j)) = some v ∧ DataW.trod enc P w base spare held n f.type [v] = some y := by
 rcases open_slice ht h with ⟨h0, _⟩ | ⟨a, len, cap, m, n, D, Pl, hcs, hb, hl, hm, hmm, hx, hi⟩
 ·exact ⟨none, 0, 0, h0, fun _ => rfl, Nat.le_refl _, Nat.zero_le _, fun i hi => absurd hi (by omega)⟩
 ·have hlm : len ≤ m := by rw [hmm]; split <;> omega
  refine ⟨some a, len, cap, hcs, by simp, hl, hm, fun i hil => ⟨a, rfl, fun j f hj => ?_⟩⟩
  obtain ⟨cs', hc, ht'⟩ := hi i (by omega)
  rw [hC] at hc
  obtain ⟨ys, n', hn', hy, hlen, hyl, hf⟩ := DataW.trod_struct he ht'
  obtain ⟨_, hcl, hat⟩ := World.cells?_some hc
  obtain ⟨ho, hk⟩ := hone_of hone j f hj
  have hjl : j < fs.size := (Array.getElem?_eq_some_iff.1 hj).1
  have hcell := hat j hjl
  have hv : cs'[j]? = some (cs'[j]'(by omega)) := List.getElem?_eq_getElem (by omega)
  have h1 := hf j f hj
  rw [ho, hk] at h1
  have hone' : (cs'.drop j).take 1 = [cs'[j]'(by omega)] := by
   rw [List.drop_eq_getElem_cons (by omega)]
   rfl
  rw [hone'] at h1
  have hys : ys[j]? = some (ys[j]'(by omega)) := List.getElem?_eq_getElem (by omega)
  refine ⟨n', _, _, ?_, h1.trans hys⟩
  rw [← Go.Deep.add_add, hcell, hv]
end

section
variable {H : Type} {enc : TypeId × Value → H} {W : World}

theorem field_i64 {n : Nat} {t : TypeId} {v : Value} {y : DataW H × List MemPlace} {a : Addr} (ht : Tryd.prog.underlying t = some (.int .i64)) (hc : W.cell? a = some v)
  (h : DataW.trod enc Tryd.prog W 0 (fun _ => true) true n t [v] = some y) : ∃ x, W.cell? a = some (.int .i64 x) ∧ -9223372036854775808 ≤ x ∧ x ≤ 9223372036854775807 := by
 obtain ⟨x, hx, _, hw⟩ := DataW.trod_int ht h
 simp at hx
 subst hx
 exact ⟨x, hc, bd_i64 hw⟩

theorem field_str {n : Nat} {t : TypeId} {v : Value} {y : DataW H × List MemPlace} {a : Addr} (ht : Tryd.prog.underlying t = some .string) (hc : W.cell? a = some v)
  (h : DataW.trod enc Tryd.prog W 0 (fun _ => true) true n t [v] = some y) : ∃ x, W.cell? a = some (.string x) ∧ x.size ≤ maxLen := by
 obtain ⟨x, hx, _, hw⟩ := DataW.trod_string ht h
 simp at hx
 subst hx
 exact ⟨x, hc, hw⟩

/-- An address that holds a cell is plain. -/
theorem plain_of {a : Addr} {v : Value} (h : W.cell? (a.add 0) = some v) : ∃ b o, a = ⟨b, o, none⟩ := by
 obtain ⟨b, o, spot⟩ := a
 have : spot = none := by simpa [Addr.add] using World.cell?_spot h
 subst this
 exact ⟨b, o, rfl⟩

theorem open_class {n : Nat} {v : Value} {y : DataW H × List MemPlace} (h : DataW.trod enc Tryd.prog W 0 (fun _ => true) true n 22 [v] = some y) : ∃ cs, ClassAt W v cs := by
 obtain ⟨a, len, cap, hcs, ha, hl, hm, hi⟩ := open_rows Tryd.underlying22 Tryd.underlying55 (by kernel_rfl) (by kernel_rfl) h
 have each : ∀ i, i < len → ∃ s : ByteArray, ∃ b o, a = some ⟨b, o, none⟩ ∧ s.size ≤ maxLen ∧ W.cell? ⟨b, o + i, none⟩ = some (.string s) := by
  intro i hil
  obtain ⟨a0, rfl, hf⟩ := hi i hil
  obtain ⟨n0, v0, y0, c0, t0⟩ := hf 0 _ rfl
  obtain ⟨b, o, rfl⟩ : ∃ b o, a0 = ⟨b, o, none⟩ := by
   obtain ⟨a1, h1, hf1⟩ := hi 0 (by omega)
   obtain rfl := Option.some.inj h1
   obtain ⟨_, _, _, c9, _⟩ := hf1 0 _ rfl
   rw [Nat.zero_mul] at c9
   exact plain_of c9
  obtain ⟨s, c1, hs⟩ := field_str Tryd.underlying9 c0 t0
  rw [Go.WideShapes.add_plain] at c1
  exact ⟨s, b, o, rfl, hs, by simpa using c1⟩
 obtain ⟨S, hS⟩ := choose_lt each
 have hlen : ((List.range len).map S).length = len := by simp
 simp at hcs
 subst hcs
 refine ⟨(List.range len).map S, a, cap, by rw [hlen], ha, by rw [hlen]; exact hl, hm, fun i hi' => ?_⟩
 rw [hlen] at hi'
 have e1 : ((List.range len).map S).getD i ByteArray.empty = S i := by
  rw [List.getD_eq_getElem?_getD, List.getElem?_map, List.getElem?_range hi']; rfl
 rw [e1]
 exact hS i hi'

theorem open_code {n : Nat} {v : Value} {y : DataW H × List MemPlace} (h : DataW.trod enc Tryd.prog W 0 (fun _ => true) true n 67 [v] = some y) : ∃ xs, CodeAt W v xs := by
 obtain ⟨a, len, cap, hcs, ha, hl, hm, hi⟩ := open_rows Tryd.underlying67 Tryd.underlying66 (by kernel_rfl) (by kernel_rfl) h
 have each : ∀ i, i < len → ∃ s : Ins, ∃ b o, a = some ⟨b, o, none⟩ ∧ s.bd ∧ InsAt W b (o + i * 4) s := by
  intro i hil
  obtain ⟨a0, rfl, hf⟩ := hi i hil
  obtain ⟨n0, v0, y0, c0, t0⟩ := hf 0 _ rfl
  obtain ⟨n1, v1, y1, c1, t1⟩ := hf 1 _ rfl
  obtain ⟨n2, v2, y2, c2, t2⟩ := hf 2 _ rfl
  obtain ⟨n3, v3, y3, c3, t3⟩ := hf 3 _ rfl
  obtain ⟨b, o, rfl⟩ : ∃ b o, a0 = ⟨b, o, none⟩ := by
   obtain ⟨a1, h1, hf1⟩ := hi 0 (by omega)
   obtain rfl := Option.some.inj h1
   obtain ⟨_, _, _, c9, _⟩ := hf1 0 _ rfl
   rw [Nat.zero_mul] at c9
   exact plain_of c9
  obtain ⟨x0, e0, b0⟩ := field_i64 Tryd.underlying3 c0 t0
  obtain ⟨x1, e1, b1⟩ := field_i64 Tryd.underlying3 c1 t1
  obtain ⟨x2, e2, b2⟩ := field_i64 Tryd.underlying3 c2 t2
  obtain ⟨x3, e3, b3⟩ := field_i64 Tryd.underlying2 c3 t3
  rw [Go.WideShapes.add_plain] at e0 e1 e2 e3
  refine ⟨⟨x0, x1, x2, x3⟩, b, o, rfl, ⟨b0, b1, b2, b3⟩, ?_, ?_, ?_, ?_⟩
  ·simpa [Nat.add_assoc] using e0
  ·simpa [Nat.add_assoc] using e1
  ·simpa [Nat.add_assoc] using e2
  ·simpa [Nat.add_assoc] using e3
 obtain ⟨S, hS⟩ := choose_lt each
 have hlen : ((List.range len).map S).length = len := by simp
 simp at hcs
 subst hcs
 refine ⟨(List.range len).map S, a, cap, by rw [hlen], by rw [hlen]; exact hl, hm, fun i hi' => ?_⟩
 rw [hlen] at hi'
 have e1 : ((List.range len).map S).getD i default = S i := by
  rw [List.getD_eq_getElem?_getD, List.getElem?_map, List.getElem?_range hi']; rfl
 rw [e1]
 exact hS i hi'

theorem open_meths {n : Nat} {v : Value} {y : DataW H × List MemPlace} (h : DataW.trod enc Tryd.prog W 0 (fun _ => true) true n 23 [v] = some y) : ∃ ms, MethsAt W v ms := by
 obtain ⟨a, len, cap, hcs, ha, hl, hm, hi⟩ := open_rows Tryd.underlying23 Tryd.underlying69 (by kernel_rfl) (by kernel_rfl) h
 have each : ∀ i, i < len → ∃ s : Meth, ∃ b o, a = some ⟨b, o, none⟩ ∧ s.sz ∧ MethAt W b (o + i * 4) s := by
  intro i hil
  obtain ⟨a0, rfl, hf⟩ := hi i hil
  obtain ⟨n0, v0, y0, c0, t0⟩ := hf 0 _ rfl
  obtain ⟨n1, v1, y1, c1, t1⟩ := hf 1 _ rfl
  obtain ⟨n2, v2, y2, c2, t2⟩ := hf 2 _ rfl
  obtain ⟨n3, v3, y3, c3, t3⟩ := hf 3 _ rfl
  obtain ⟨b, o, rfl⟩ : ∃ b o, a0 = ⟨b, o, none⟩ := by
   obtain ⟨a1, h1, hf1⟩ := hi 0 (by omega)
   obtain rfl := Option.some.inj h1
   obtain ⟨_, _, _, c9, _⟩ := hf1 0 _ rfl
   rw [Nat.zero_mul] at c9
   exact plain_of c9
  obtain ⟨x0, e0, b0⟩ := field_str Tryd.underlying9 c0 t0
  obtain ⟨x1, e1, b1⟩ := field_str Tryd.underlying9 c1 t1
  obtain ⟨x2, e2, b2⟩ := field_str Tryd.underlying9 c2 t2
  obtain ⟨xs, hx⟩ := open_code t3
  rw [Go.WideShapes.add_plain] at e0 e1 e2 c3
  refine ⟨⟨x0, x1, x2, xs⟩, b, o, rfl, ⟨b0, b1, b2⟩, ?_, ?_, ?_, v3, ?_, hx⟩
  ·simpa [Nat.add_assoc] using e0
  ·simpa [Nat.add_assoc] using e1
  ·simpa [Nat.add_assoc] using e2
  ·simpa [Nat.add_assoc] using c3
 obtain ⟨S, hS⟩ := choose_lt each
 have hlen : ((List.range len).map S).length = len := by simp
 simp at hcs
 subst hcs
 refine ⟨(List.range len).map S, a, cap, by rw [hlen], by rw [hlen]; exact hl, hm, fun i hi' => ?_⟩
 rw [hlen] at hi'
 have e1 : ((List.range len).map S).getD i default = S i := by
  rw [List.getD_eq_getElem?_getD, List.getElem?_map, List.getElem?_range hi']; rfl
 rw [e1]
 exact hS i hi'

set_option maxRecDepth 100000 in
theorem open_program {v : Value} {d : DataW H} {p : List MemPlace} (hv : Value.okWide Tryd.prog W .any 0 25 v) (h : DataW.Trod enc Tryd.prog W 0 (fun _ => true) true 25 v d p) :
  ∃ cv mv cs ms, v = .agg #[cv, mv] ∧ ClassAt W cv cs ∧ MethsAt W mv ms := by
 obtain ⟨xs, rfl, hsz⟩ := okWide_struct Tryd.underlying25 hv
 have h2 : xs.size = 2 := hsz.trans (by kernel_rfl)
 obtain ⟨cv, mv, rfl⟩ : ∃ a b, xs = #[a, b] := by
  obtain ⟨l⟩ := xs
  match l, h2 with
  | [a, b], _ => exact ⟨a, b, rfl⟩
 obtain ⟨fuel, hf⟩ := h
 obtain ⟨ys, n, _, _, _, hyl, hg⟩ := DataW.trod_struct Tryd.underlying25 hf
 have g0 := hg 0 _ rfl
 have g1 := hg 1 _ rfl
 have l2 : ys.length = 2 := hyl
 rw [List.getElem?_eq_getElem (by omega)] at g0 g1
 obtain ⟨cs, hc⟩ := open_class g0
 obtain ⟨ms, hm⟩ := open_meths g1
 exact ⟨cv, mv, cs, ms, rfl, hc, hm⟩
end
end Go.Proofs.YtbcoejmiihgfoaaDoor

/-! A []api.Instr that comes in. -/
namespace Go.Proofs.YtbcoejmiihgfoaaDoor
open Go.ChangeShapes Go.WideShapes Go.ChangeAt Go.RowKit
section
variable {H : Type} {enc : TypeId × Value → H} {W : World}
theorem open_ins {v : Value} {d : DataW H} {p : List MemPlace} (hv : ∃ a l c, v = .slice a l c) (h : DataW.Trod enc Tryd.prog W 0 (fun _ => true) true 67 v d p) : ∃ xs, CodeAt W v xs := by
 obtain ⟨fuel, hf⟩ := h
 obtain ⟨a, l, c, rfl⟩ := hv
 exact open_code hf
end
end Go.Proofs.YtbcoejmiihgfoaaDoor

/-! An api.Program that comes in, opened: at whatever bound. -/
namespace Go.Proofs.YtbcoejmiihgfoaaDoor
open Go.RowKit Go.ChangeShapes Go.WideShapes Go.Deep
section
variable {H : Type} {enc : TypeId × Value → H} {W : World}
set_option maxRecDepth 100000 in
theorem open_program2 {bs : Nat} {v : Value} {d : DataW H} {p : List MemPlace} (hv : Value.okWide Tryd.prog W .any bs 25 v) (h : DataW.Trod enc Tryd.prog W 0 (fun _ => true) true 25 v d p) :
  ∃ cv mv cs ms, v = .agg #[cv, mv] ∧ ClassAt W cv cs ∧ MethsAt W mv ms := by
 obtain ⟨xs, rfl, hsz⟩ := okWide_struct Tryd.underlying25 hv
 have h2 : xs.size = 2 := hsz.trans (by kernel_rfl)
 obtain ⟨cv, mv, rfl⟩ : ∃ a b, xs = #[a, b] := by
  obtain ⟨l⟩ := xs
  match l, h2 with
  | [a, b], _ => exact ⟨a, b, rfl⟩
 obtain ⟨fuel, hf⟩ := h
 obtain ⟨ys, n, _, _, _, hyl, hg⟩ := DataW.trod_struct Tryd.underlying25 hf
 have g0 := hg 0 _ rfl
 have g1 := hg 1 _ rfl
 have l2 : ys.length = 2 := hyl
 rw [List.getElem?_eq_getElem (by omega)] at g0 g1
 obtain ⟨cs, hc⟩ := open_class g0
 obtain ⟨ms, hm⟩ := open_meths g1
 exact ⟨cv, mv, cs, ms, rfl, hc, hm⟩
end
end Go.Proofs.YtbcoejmiihgfoaaDoor

/-! An api.Instr that comes in, opened. -/
namespace Go.Proofs.YtbcoejmiihgfoaaDoor
open Go.RowKit Go.ChangeShapes Go.WideShapes Go.Deep
section
variable {H : Type} {enc : TypeId × Value → H} {W : World}
theorem val_i64 {n : Nat} {t : TypeId} {v : Value} {y : DataW H × List MemPlace} (ht : Tryd.prog.underlying t = some (.int .i64))
  (h : DataW.trod enc Tryd.prog W 0 (fun _ => true) true n t [v] = some y) : ∃ x, v = .int .i64 x ∧ -9223372036854775808 ≤ x ∧ x ≤ 9223372036854775807 := by
 obtain ⟨x, hx, _, hw⟩ := DataW.trod_int ht h
 simp at hx
 subst hx
 exact ⟨x, rfl, bd_i64 hw⟩
set_option maxRecDepth 100000 in
theorem open_instr {bs : Nat} {v : Value} {d : DataW H} {p : List MemPlace} (hv : Value.okWide Tryd.prog W .any bs 66 v) (h : DataW.Trod enc Tryd.prog W 0 (fun _ => true) true 66 v d p) :
  ∃ x : Ins, v = .agg #[.int .i64 x.op, .int .i64 x.a, .int .i64 x.b, .int .i64 x.n] ∧ x.bd := by
 obtain ⟨xs, rfl, hsz⟩ := okWide_struct Tryd.underlying66 hv
 have h2 : xs.size = 4 := hsz.trans (by kernel_rfl)
 obtain ⟨v0, v1, v2, v3, rfl⟩ : ∃ a b c d, xs = #[a, b, c, d] := by
  obtain ⟨l⟩ := xs
  match l, h2 with
  | [a, b, c, d], _ => exact ⟨a, b, c, d, rfl⟩
 obtain ⟨fuel, hf⟩ := h
 obtain ⟨ys, n, _, _, _, hyl, hg⟩ := DataW.trod_struct Tryd.underlying66 hf
 have g0 := hg 0 _ rfl
 have g1 := hg 1 _ rfl
 have g2 := hg 2 _ rfl
 have g3 := hg 3 _ rfl
 have l2 : ys.length = 4 := hyl
 rw [List.getElem?_eq_getElem (by omega)] at g0 g1 g2 g3
 obtain ⟨x0, rfl, b0⟩ := val_i64 Tryd.underlying3 g0
 obtain ⟨x1, rfl, b1⟩ := val_i64 Tryd.underlying3 g1
 obtain ⟨x2, rfl, b2⟩ := val_i64 Tryd.underlying3 g2
 obtain ⟨x3, rfl, b3⟩ := val_i64 Tryd.underlying2 g3
 exact ⟨⟨x0, x1, x2, x3⟩, rfl, b0, b1, b2, b3⟩
end
end Go.Proofs.YtbcoejmiihgfoaaDoor
