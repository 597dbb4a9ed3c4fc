/- Code of one's own. -/
import Derived.Test.YtojobkhidlfeoaaDoorFirstL
import Derived.Test.YtojobkhidlfeoaaDoorVerL5
/-! Code of one's own. -/
namespace Go.Proofs.YtojobkhidlfeoaaDoor
open Go.RowKit

theorem xcells_app : ∀ a b : List Ins, xcells (a ++ b) = xcells a ++ xcells b
 | [], _ => rfl
 | x :: t, b => by simp only [List.cons_append, xcells, xcells_app t b]
/-- Code of one's own. -/
def OwnX (w : World) (B : Nat) (v : Value) (xs : List Ins) : Prop := w.ownsRow B 29 4 v xs.length (xcells xs)
theorem OwnX.upd {w w' : World} {B : Nat} {v : Value} {xs : List Ins} (h : OwnX w B v xs) (hu : Upd [] w w') : OwnX w' B v xs := row_upd h hu (by simp)
theorem OwnX.nil (w : World) (B : Nat) : OwnX w B (.slice none 0 0) [] := ⟨rfl, .inl ⟨rfl, rfl⟩⟩
theorem OwnX.shape {w : World} {B : Nat} {v : Value} {xs : List Ins} (h : OwnX w B v xs) : ∃ p c, v = .slice p xs.length c := by
 rcases h.2 with ⟨h1, h2⟩ | ⟨g, c, cur, h1, _⟩
 ·exact ⟨none, 0, by rw [h1, h2]⟩
 ·exact ⟨_, c, h1⟩
theorem OwnX.lt {w : World} {B : Nat} {v : Value} {xs : List Ins} (h : OwnX w B v xs) (k : Nat) (hk : v.ownBlock = some k) : B ≤ k ∧ k < w.heap.size := by
 rcases h.2 with ⟨h1, h2⟩ | ⟨g, c, cur, h1, h3, h4, _⟩
 ·rw [h1] at hk; simp [Value.ownBlock] at hk
 ·rw [h1] at hk
  simp only [Value.ownBlock, Option.some.injEq] at hk
  subst hk
  exact ⟨h3, lt_of_heap h4⟩
theorem OwnX.code {w : World} {B : Nat} {v : Value} {xs : List Ins} (h : OwnX w B v xs) (hb : ∀ i, i < xs.length → (xs.getD i default).bd) : CodeAt w v xs := by
 rcases h.2 with ⟨h1, h2⟩ | ⟨g, c, cur, h1, h3, h4, h5, h6, h7, h8⟩
 ·have hxs : xs = [] := List.eq_nil_of_length_eq_zero h2
  subst hxs
  exact ⟨none, 0, h1, Nat.le_refl _, by unfold maxLen; omega, by simp⟩
 ·refine ⟨_, c, h1, h5, h6, fun i hi => ⟨g, 0, rfl, hb i hi, ?_⟩⟩
  obtain ⟨g0, g1, g2, g3⟩ := xcells_get xs i hi
  have cell : ∀ j u, (xcells xs)[j]? = some u → w.cell? ⟨g, 0 + j, none⟩ = some u := fun j u hj => by
   have := World.ownsRow.cells h (g := g) (by rw [h1]; rfl) j u hj
   rwa [Addr.add_lit] at this
  exact ⟨cell _ _ g0, cell _ _ g1, cell _ _ g2, cell _ _ g3⟩
theorem OwnX.lit (w : World) (B : Nat) (xs : List Ins) (hB : B ≤ w.heap.size) (hl : xs.length ≤ 1000) : OwnX (w.alloc (.cells (xcells xs).toArray 29)) B (.slice (some ⟨w.heap.size, 0, none⟩) xs.length xs.length) xs := by
 refine ⟨by rw [xcells_len], .inr ⟨w.heap.size, xs.length, _, rfl, hB, heap_alloc_new w _, Nat.le_refl _, by unfold maxLen; omega, by simp [xcells_len], ?_⟩⟩
 show (xcells xs).take (xs.length * 4) = _
 rw [List.take_of_length_le (by rw [xcells_len]; exact Nat.le_refl _)]
theorem OwnX.push {w w' : World} {B n : Nat} {v v' : Value} {xs ys : List Ins} {o : Obj} (h : OwnX w B v xs) (hn : xs.length + ys.length = n) (hown : w'.ownsRow B 29 4 v' n (xcells xs ++ xcells ys)) (hgr : (w.alloc o).grownBy w' v.ownBlock) :
  OwnX w' B v' (xs ++ ys) ∧ Upd v.ownBlock.toList w w' ∧ (∀ k ∈ v.ownBlock.toList, B ≤ k ∧ k < w.heap.size) := by
 subst hn
 refine ⟨by unfold OwnX; rw [List.length_append, xcells_app]; exact hown, ((Upd.refl _ w).alloc o).grown hgr (fun q hq => Or.inl (Option.mem_toList.2 hq)), fun k hk => h.lt k (Option.mem_toList.1 hk)⟩
end Go.Proofs.YtojobkhidlfeoaaDoor
