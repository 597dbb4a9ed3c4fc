/- What the library's contracts on rows say ('putRow'), in the words of rows of one's own. -/
import Derived.Test.YtojobkhidlfeoaaDoorOwnNe
import Derived.Sort.Row
namespace Go.Proofs.YtojobkhidlfeoaaDoor
open Go.RowKit

theorem heap_putRow {w : World} {g n : Nat} {cur : Array Value} {t : TypeId} {f : Nat × Nat} (h : w.heap[g]? = some (.cells cur t f)) (ys : List Int) :
  (Sort.putRow (Value.int .i64) (Sort.ahead w n) g 0 ys.toArray).heap[g]? = some (.cells (Sort.putCells (Value.int .i64) 0 ys.toArray cur) t f) := by
 unfold Sort.putRow Sort.mapBlock Sort.ahead
 simp only [Array.getElem?_modify, if_true, h, Option.map_some, Sort.onCells]
theorem upd_putRow (w : World) (g n : Nat) (ys : List Int) : Upd [g] w (Sort.putRow (Value.int .i64) (Sort.ahead w n) g 0 ys.toArray) := by
 refine ⟨rfl, rfl, rfl, by simp, fun k hk hg => ?_⟩
 unfold Sort.putRow Sort.mapBlock Sort.ahead
 simp only [Array.getElem?_modify]
 rw [if_neg (by simpa using fun e => hg (by simp [e]))]

/-- A row of one's own holds these numbers, in the library's words. -/
theorem OwnI.holds {w : World} {B g c : Nat} {e : TypeId} {xs : List Int} (h : OwnI w B e (.slice (some ⟨g, 0, none⟩) xs.length c) xs) : Sort.Holds (Value.int .i64) w g 0 xs.toArray := by
 intro j hj
 rcases h.2 with ⟨h1, _⟩ | ⟨g', c', cur, h1, h3, h4, h5, h6, h7, h8⟩
 ·cases h1
 ·injection h1 with e1 e2 e3
  injection e1 with e1
  injection e1 with e1 _
  subst e1
  have hj' : j < xs.length := by simpa using hj
  refine ⟨?_, by simp [World.frozen?, h4]⟩
  rcases h.form with ⟨h9, _⟩ | ⟨g2, c2, h9, _, _, _, h10⟩
  ·cases h9
  ·injection h9 with e4 _ _
   injection e4 with e4
   injection e4 with e4 _
   subst e4
   rw [Nat.zero_add, h10 j hj', getElem!_pos xs.toArray j hj, List.getD_eq_getElem?_getD, List.getElem?_eq_getElem hj']
   rfl

/-- Behind such a call. -/
theorem OwnI.putRow {w : World} {B g c n : Nat} {e : TypeId} {xs ys : List Int} (h : OwnI w B e (.slice (some ⟨g, 0, none⟩) xs.length c) xs) (hl : ys.length = xs.length) :
  OwnI (Sort.putRow (Value.int .i64) (Sort.ahead w n) g 0 ys.toArray) B e (.slice (some ⟨g, 0, none⟩) xs.length c) ys := by
 rcases h.2 with ⟨h1, _⟩ | ⟨g', c', cur, h1, h3, h4, h5, h6, h7, h8⟩
 ·cases h1
 ·injection h1 with e1 e2 e3
  injection e1 with e1
  injection e1 with e1 _
  subst e1
  subst e3
  unfold OwnI
  rw [hl]
  refine ⟨by simp [hl], .inr ⟨g, c, _, rfl, h3, heap_putRow h4 ys, h5, h6, ?_, ?_⟩⟩
  ·unfold Sort.putCells
   simp [h7]
  ·rw [Nat.mul_one]
   apply List.ext_getElem?
   intro k
   rw [List.getElem?_take, List.getElem?_map]
   by_cases hk : k < xs.length
   ·rw [if_pos hk, List.getElem?_eq_getElem (show k < ys.length by omega)]
    have hkc : k < cur.size := by omega
    unfold Sort.putCells
    rw [Array.getElem?_toList, Array.getElem?_mapIdx, Array.getElem?_eq_getElem hkc, Option.map_some, Option.map_some, if_pos ⟨by omega, by simp; omega⟩, Nat.sub_zero, getElem!_pos ys.toArray k (by simp; omega)]
    rfl
   ·rw [if_neg hk, List.getElem?_eq_none (by omega)]; rfl

end Go.Proofs.YtojobkhidlfeoaaDoor
