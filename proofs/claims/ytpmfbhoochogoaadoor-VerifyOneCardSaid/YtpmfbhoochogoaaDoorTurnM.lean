/- One instruction of one's own methods is turned. -/
import Derived.Test.YtpmfbhoochogoaaDoorPgmW
import Derived.Test.YtpmfbhoochogoaaDoorVerL13
/-! One instruction of one's own methods is turned. -/
namespace Go.Proofs.YtpmfbhoochogoaaDoor
open Go.RowKit

/-- Four cells are stored: an instruction. -/
abbrev store4 (w : World) (b q : Nat) (x : Ins) : World := (((w.setCell ⟨b, q, none⟩ (.int .i64 x.op)).setCell ⟨b, q + 1, none⟩ (.int .i64 x.a)).setCell ⟨b, q + 2, none⟩ (.int .i64 x.b)).setCell ⟨b, q + 3, none⟩ (.int .i64 x.n)
theorem store4_upd (w : World) (b q : Nat) (x : Ins) : Upd [b] w (store4 w b q x) :=
  ((((Upd.refl _ w).setCell (.inl (by simp)) _).setCell (.inl (by simp)) _).setCell (.inl (by simp)) _).setCell (.inl (by simp)) _
theorem store4_heap {w : World} {b : Nat} {cur : Array Value} {t : TypeId} (h : w.heap[b]? = some (.cells cur t)) (q : Nat) (x : Ins) :
    (store4 w b q x).heap[b]? = some (.cells ((((cur.setIfInBounds q (.int .i64 x.op)).setIfInBounds (q + 1) (.int .i64 x.a)).setIfInBounds (q + 2) (.int .i64 x.b)).setIfInBounds (q + 3) (.int .i64 x.n)) t) :=
  heap_setCell (heap_setCell (heap_setCell (heap_setCell h q _) (q + 1) _) (q + 2) _) (q + 3) _
theorem CodeAt.turn {w : World} {b o cap : Nat} {xs : List Ins} {cur : Array Value} {t : TypeId} (h : CodeAt w (.slice (some ⟨b, o, none⟩) xs.length cap) xs) (hb : w.heap[b]? = some (.cells cur t)) {pc : Nat} {x : Ins} (hpc : pc < xs.length) (hx : x.bd) :
    CodeAt (store4 w b (o + pc * 4) x) (.slice (some ⟨b, o, none⟩) xs.length cap) (xs.set pc x) := by
  obtain ⟨a, c, h1, h2, h3, h4⟩ := h
  injection h1 with h1 _ h5
  subst h1; subst h5
  refine ⟨_, _, by rw [List.length_set], by rw [List.length_set]; exact h2, h3, fun i hi => ?_⟩
  rw [List.length_set] at hi
  obtain ⟨b', o', e, h6, h7⟩ := h4 i hi
  injection e with e
  injection e with e1 e2 _
  subst e1; subst e2
  obtain ⟨_, _, e', _, h8⟩ := h4 pc hpc
  injection e' with e'
  injection e' with e3 e4 _
  subst e3; subst e4
  have hs : o + pc * 4 + 3 < cur.size := by
    have := h8.2.2.2
    rw [cell_of hb] at this
    exact (Array.getElem?_eq_some_iff.1 this).1
  have hc := store4_heap hb (o + pc * 4) x
  refine ⟨b, o, rfl, ?_, ?_⟩
  · rw [getD_set_b]
    split
    · exact hx
    · exact h6
  · rw [getD_set_b]
    by_cases e : pc = i
    · subst e
      rw [if_pos ⟨rfl, hpc⟩]
      refine ⟨?_, ?_, ?_, ?_⟩
      all_goals
        rw [cell_of hc]
        simp only [Array.getElem?_setIfInBounds, Array.size_setIfInBounds]
        simp (disch := omega) only [if_pos, if_neg]
        first | rfl | simp
    · rw [if_neg (fun h => e h.1)]
      have g : ∀ j, j < 4 → (store4 w b (o + pc * 4) x).cell? ⟨b, o + i * 4 + j, none⟩ = w.cell? ⟨b, o + i * 4 + j, none⟩ := fun j hj => by
        rw [cell_of hc, cell_of hb]
        simp only [Array.getElem?_setIfInBounds]
        rw [if_neg (by omega), if_neg (by omega), if_neg (by omega), if_neg (by omega)]
      exact ⟨(g 0 (by omega)).trans h7.1, (g 1 (by omega)).trans h7.2.1, (g 2 (by omega)).trans h7.2.2.1, (g 3 (by omega)).trans h7.2.2.2⟩
theorem mcells_turn : ∀ (ms : List Meth) (vs : List Value) (k pc : Nat) (x : Ins), mcells (ms.set k ((ms.getD k default).turn pc x)) vs = mcells ms vs
  | [], _, _, _, _ => rfl
  | m :: ms, [], 0, _, _ => rfl
  | m :: ms, [], k + 1, _, _ => rfl
  | m :: ms, v :: vs, 0, pc, x => rfl
  | m :: ms, v :: vs, k + 1, pc, x => by
    have ih := mcells_turn ms vs k pc x
    show Value.string _ :: _ :: _ :: _ :: mcells (ms.set k ((ms.getD k default).turn pc x)) vs = _
    rw [ih]
    rfl
theorem OwnM.turn {w : World} {B B' : Nat} {v : Value} {p : Prg} {vs : List Value} (h : OwnM w B v p.ms vs) (hr : Rise w B' vs) {k b o n cap pc : Nat} {x : Ins} (hk : k < p.ms.length) (hv : vs.getD k undef = .slice (some ⟨b, o, none⟩) n cap) (hpc : pc < (p.ms.getD k default).code.length) (hx : x.bd) :
    OwnM (store4 w b (o + pc * 4) x) B v (p.turn k pc x).ms vs := by
  have hvl := h.len
  have hcb : codeBlk (vs.getD k undef) = some b := by rw [hv]; rfl
  refine ⟨?_, by rw [turn_mslen]; exact hvl, fun i hi => ?_⟩
  · have h1 := row_upd h.row (store4_upd w b (o + pc * 4) x) (fun q hq hm => by
      simp at hm; subst hm; exact (h.code k hk).2 q hcb hq)
    show World.ownsRow _ _ _ _ _ (p.ms.set k _).length (mcells (p.ms.set k _) vs)
    rw [mcells_turn, List.length_set]
    exact h1
  · rw [turn_mslen] at hi
    refine ⟨?_, (h.code i hi).2⟩
    rw [turn_get]
    by_cases e : k = i
    · subst e
      rw [if_pos ⟨rfl, hk⟩]
      have hc := (h.code k hk).1
      rw [hv] at hc ⊢
      obtain ⟨a, c, e1, h2, h3, h4⟩ := id hc
      injection e1 with _ e2 _
      subst e2
      obtain ⟨_, _, cur, hbk⟩ := hr.at_ k (by omega) b hcb
      exact hc.turn hbk hpc hx
    · rw [if_neg (fun h => e h.1)]
      refine (h.code i hi).1.upd2 (store4_upd w b _ x) (fun b' hb' hm => ?_)
      simp at hm
      subst hm
      rcases Nat.lt_or_ge i k with h1 | h1
      · exact absurd (hr.lt i k h1 (by omega) _ _ hb' hcb) (by omega)
      · exact absurd (hr.lt k i (by omega) (by omega) _ _ hcb hb') (by omega)
theorem MethsAt.turn_sz {w : World} {v : Value} {p : Prg} (h : MethsAt w v p.ms) (k pc : Nat) (x : Ins) (i : Nat) (hi : i < p.ms.length) : ((p.turn k pc x).ms.getD i default).sz := by
  obtain ⟨_, _, _, _, _, h4⟩ := h
  rw [turn_get]
  split
  · rename_i e
    obtain ⟨rfl, hk⟩ := e
    obtain ⟨_, _, _, h5, _⟩ := h4 k hk
    exact h5
  · obtain ⟨_, _, _, h5, _⟩ := h4 i hi
    exact h5
end Go.Proofs.YtpmfbhoochogoaaDoor
