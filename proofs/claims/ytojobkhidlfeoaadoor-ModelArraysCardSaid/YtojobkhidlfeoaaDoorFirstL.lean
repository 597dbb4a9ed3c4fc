/- What Of says of programs that may be; programs that are written out. -/
import Derived.Test.YtojobkhidlfeoaaDoorOfV
namespace Go.Proofs.YtojobkhidlfeoaaDoor
open Go.RowKit

theorem OfEnd.bad {p : Prg} {E : Nat → Addr} {w w' : World} {v : Value} (h : OfEnd p E w v w') (hok : p.Ok) {k : Nat} {c : Int} {pc : Nat} (hk : k < p.ms.length) (hall : ∀ j, j < k → ∃ s, lookM p (p.ms.getD j default) = .ok s) (hbad : lookM p (p.ms.getD k default) = .error (c, pc)) :
  ∃ ev, v = .tuple #[.pointer none, ev] ∧ ErrV w' E ev c [(k : Int), (pc : Int)] ∧ Upd [] w w' := by
 obtain ⟨⟨c', at_, ev, h1, h2, _⟩ | ⟨_, k', c', pc', ev, h1, h2, h3, h4, h5⟩ | ⟨_, ib, ss, h1, h2, _⟩, hu⟩ := h
 ·exact absurd (h1.zero hok).1 h2
 ·have e : k' = k := by
   rcases Nat.lt_trichotomy k' k with e | e | e
   ·obtain ⟨s, hs⟩ := hall k' e; rw [hs] at h3; cases h3
   ·exact e
   ·obtain ⟨s, hs⟩ := h2 k e; rw [hs] at hbad; cases hbad
  subst e
  rw [hbad] at h3
  injection h3 with h3
  injection h3 with h3 h6
  subst h3; subst h6
  exact ⟨ev, h4, h5, hu⟩
 ·have := h2 k hk
  rw [hbad] at this
  cases this
theorem OfEnd.good {p : Prg} {E : Nat → Addr} {w w' : World} {v : Value} (h : OfEnd p E w v w') (hok : p.Ok) (hall : ∀ j, j < p.ms.length → ∃ s, lookM p (p.ms.getD j default) = .ok s) :
  ∃ ib ss, ss.length = p.ms.length ∧ (∀ j, j < p.ms.length → lookM p (p.ms.getD j default) = .ok (ss.getD j default)) ∧ v = .tuple #[.pointer (some ⟨ib, 0, none⟩), .nilIface] ∧ InfoAt w' ib p ss 0 ∧ w.heap.size ≤ ib ∧ Upd [] w w' := by
 obtain ⟨⟨c', at_, ev, h1, h2, _⟩ | ⟨_, k', c', pc', ev, h1, h2, h3, h4, h5⟩ | ⟨_, ib, ss, h1, h2, h3, h4, h5, _⟩, hu⟩ := h
 ·exact absurd (h1.zero hok).1 h2
 ·obtain ⟨s, hs⟩ := hall k' h1
  rw [hs] at h3
  cases h3
 ·exact ⟨ib, ss, h1, h2, h3, h4, h5, hu⟩

/-- Code that is written out. -/
theorem code_lit (w : World) (xs : List Ins) (hl : xs.length ≤ 1000) (hb : ∀ i, i < xs.length → (xs.getD i default).bd) : CodeAt (w.alloc (.cells (xcells xs).toArray 29)) (.slice (some ⟨w.heap.size, 0, none⟩) xs.length xs.length) xs := by
 have hn := heap_alloc_new w (.cells (xcells xs).toArray 29)
 refine ⟨_, _, rfl, Nat.le_refl _, by unfold maxLen; omega, fun i hi => ⟨w.heap.size, 0, rfl, hb i hi, ?_⟩⟩
 obtain ⟨g0, g1, g2, g3⟩ := xcells_get xs i hi
 have cell : ∀ j u, (xcells xs)[j]? = some u → (w.alloc (.cells (xcells xs).toArray 29)).cell? ⟨w.heap.size, 0 + j, none⟩ = some u := fun j u hj => by
  rw [Nat.zero_add, cell_of hn]
  simpa using hj
 exact ⟨cell _ _ g0, cell _ _ g1, cell _ _ g2, cell _ _ g3⟩
theorem meths_lit (w : World) (ms : List Meth) (vs : List Value) (hl : vs.length = ms.length) (hn : ms.length ≤ 1000) (hz : ∀ i, i < ms.length → (ms.getD i default).sz) (hc : ∀ i, i < ms.length → CodeAt w (vs.getD i undef) (ms.getD i default).code) :
  MethsAt (w.alloc (.cells (mcells ms vs).toArray 32)) (.slice (some ⟨w.heap.size, 0, none⟩) ms.length ms.length) ms := by
 have hn2 := heap_alloc_new w (.cells (mcells ms vs).toArray 32)
 refine ⟨_, _, rfl, Nat.le_refl _, by unfold maxLen; omega, fun i hi => ⟨w.heap.size, 0, rfl, hz i hi, ?_⟩⟩
 obtain ⟨g0, g1, g2, g3⟩ := mcells_get ms vs i hl hi
 have cell : ∀ j u, (mcells ms vs)[j]? = some u → (w.alloc (.cells (mcells ms vs).toArray 32)).cell? ⟨w.heap.size, 0 + j, none⟩ = some u := fun j u hj => by
  rw [Nat.zero_add, cell_of hn2]
  simpa using hj
 exact ⟨cell _ _ g0, cell _ _ g1, cell _ _ g2, _, cell _ _ g3, (hc i hi).upd ((Upd.refl [] w).alloc _)⟩
theorem class_nil (w : World) : ClassAt w (.slice none 0 0) [] := ⟨none, 0, rfl, fun _ => rfl, Nat.le_refl _, by unfold maxLen; omega, by simp⟩

/-- The chapter's programs. -/
def f1 : Meth := ⟨⟨#[]⟩, ⟨#[]⟩, ⟨#[]⟩, [⟨1, 0, 0, 1⟩, ⟨33, 0, 0, 0⟩]⟩
def f2 : Meth := ⟨⟨#[]⟩, ⟨#[]⟩, ⟨#[73]⟩, [⟨1, 0, 0, 1⟩, ⟨5, 0, 0, 0⟩, ⟨8, 0, 0, 0⟩, ⟨33, 0, 0, 0⟩]⟩
def okB (p : Prg) : Bool := decide (p.cs.length ≤ 12) && decide (1 ≤ p.ms.length) && decide (p.ms.length ≤ 12) && (List.range p.cs.length).all (fun j => clsCode (p.cs.getD j ByteArray.empty) == 0) &&
 (List.range p.ms.length).all (fun j => headCode j (p.ms.getD j default) == 0 && (List.range (p.ms.getD j default).code.length).all fun q => insCode p.cs p.ms.length (p.ms.getD j default) ((p.ms.getD j default).code.getD q default) == 0)
theorem okB_ok {p : Prg} (h : okB p = true) : p.Ok := by
 unfold okB at h
 simp only [Bool.and_eq_true, decide_eq_true_eq, List.all_eq_true, List.mem_range, beq_iff_eq] at h
 obtain ⟨⟨⟨⟨h1, h2⟩, h3⟩, h4⟩, h5⟩ := h
 exact ⟨h1, h2, h3, h4, fun j hj => (h5 j hj).1, fun j hj => (h5 j hj).2⟩
def lookB (r : Except (Int × Nat) Lk) : Option (Int × Nat) := match r with
 | .ok _ => none
 | .error e => some e
theorem lookB_err {r : Except (Int × Nat) Lk} {e : Int × Nat} (h : lookB r = some e) : r = .error e := by
 cases r with
 | ok s => cases h
 | error e' => injection h with h; rw [h]
theorem lookB_ok {r : Except (Int × Nat) Lk} (h : lookB r = none) : ∃ s, r = .ok s := by
 cases r with
 | ok s => exact ⟨s, rfl⟩
 | error e' => cases h
def lookG (r : Except (Int × Nat) Lk) (pc : Nat) : Option (Bool × List UInt8 × Nat) := match r with
 | .ok s => some (s.seen.getD pc false, s.stk.getD pc [], s.most)
 | .error _ => none
theorem f1_ok : (⟨[], [f1]⟩ : Prg).Ok := okB_ok (by decide +kernel)
theorem f2_ok : (⟨[], [f2]⟩ : Prg).Ok := okB_ok (by decide +kernel)
theorem f1_look : lookM ⟨[], [f1]⟩ f1 = .error (108, 1) := lookB_err (by decide +kernel)
theorem f2_look : ∃ s, lookM ⟨[], [f2]⟩ f2 = .ok s ∧ s.seen.getD 2 false = true ∧ s.stk.getD 2 [] = [73, 73] ∧ s.most = 2 := by
 have h : lookG (lookM ⟨[], [f2]⟩ f2) 2 = some (true, [73, 73], 2) := by decide +kernel
 cases hr : lookM ⟨[], [f2]⟩ f2 with
 | error e => rw [hr] at h; cases h
 | ok s =>
  rw [hr] at h
  injection h with h
  injection h with h1 h
  injection h with h2 h3
  exact ⟨s, rfl, h1, h2, h3⟩
end Go.Proofs.YtojobkhidlfeoaaDoor
