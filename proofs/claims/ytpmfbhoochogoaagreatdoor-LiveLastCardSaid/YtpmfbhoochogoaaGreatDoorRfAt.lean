/- A law's own method in memory: its box, and its code as a row of one's own. -/
import Derived.Test.YtpmfbhoochogoaaGreatDoorOwnX
import Derived.Test.YtpmfbhoochogoaaGreatDoorOwnNe
namespace Go.Proofs.YtpmfbhoochogoaaGreatDoor
open Go.RowKit

/-- A row's element is set. -/
theorem OwnI.setj {w : World} {base g c : Nat} {e : TypeId} {xs : List Int} {n : Nat} (hn : xs.length = n) (h : OwnI w base e (.slice (some ⟨g, 0, none⟩) n c) xs) (k : Nat) (x : Int) : OwnI (w.setCell ⟨g, k, none⟩ (.int .i64 x)) base e (.slice (some ⟨g, 0, none⟩) n c) (xs.set k x) := by
  subst hn
  rcases h.2 with ⟨h1, _⟩ | ⟨g', cap, cur, h1, h2, h3, h4, h5, h6, h7⟩
  · cases h1
  · injection h1 with e1 e2 e3
    injection e1 with e1
    injection e1 with e1 _ _
    subst e1 e3
    refine ⟨by simp, .inr ⟨g, c, cur.setIfInBounds k (.int .i64 x), by simp, h2, heap_setCell h3 k _, by simpa using h4, h5, by simpa using h6, ?_⟩⟩
    rw [List.length_set]
    rw [Nat.mul_one] at h7 ⊢
    rw [Array.toList_setIfInBounds, List.take_set, h7, List.map_set]

/-- The method's box at b: its strings, and its code. -/
structure RfAt (w wr : World) (b : Nat) (s1 s2 s3 : ByteArray) (kv : Value) (cs : List Ins) : Prop where
  m : wr.heap[b]? = some (.cells #[.string s1, .string s2, .string s3, kv] 27)
  c : OwnX wr (b + 1) kv cs
  u : Upd [] w wr
  lo : w.heap.size ≤ b

section
variable {w wr : World} {b : Nat} {s1 s2 s3 : ByteArray} {kv : Value} {cs : List Ins} (h : RfAt w wr b s1 s2 s3 kv cs)
include h
theorem RfAt.upd {w' : World} (hu : Upd [] wr w') : RfAt w w' b s1 s2 s3 kv cs := ⟨hu.heap h.m (by simp), h.c.upd hu, h.u.trans hu, h.lo⟩
theorem RfAt.cells : wr.cell? ⟨b, 0, none⟩ = some (.string s1) ∧ wr.cell? ⟨b, 1, none⟩ = some (.string s2) ∧ wr.cell? ⟨b, 2, none⟩ = some (.string s3) ∧ wr.cell? ⟨b, 3, none⟩ = some kv := by
  have hm := h.m
  exact ⟨by rw [cell_of hm]; rfl, by rw [cell_of hm]; rfl, by rw [cell_of hm]; rfl, by rw [cell_of hm]; rfl⟩
/-- The code is grown, and laid into the box. -/
theorem RfAt.push {w' : World} {v' : Value} {n : Nat} {ys : List Ins} (hn : cs.length + ys.length = n) (hpos : 0 < n) (hown : w'.ownsRow (b + 1) 24 4 v' n (xcells cs ++ xcells ys)) (hgr : wr.grownBy w' kv.ownBlock) :
    (∃ g c, v' = .slice (some ⟨g, 0, none⟩) n c) ∧ w'.cell? ⟨b, 3, none⟩ = some kv ∧ w'.frozen? ⟨b, 3, none⟩ = false ∧ Upd [] w w' ∧ Upd (b :: kv.ownBlock.toList) wr (w'.setCell ⟨b, 3, none⟩ v') ∧ RfAt w (w'.setCell ⟨b, 3, none⟩ v') b s1 s2 s3 v' (cs ++ ys) := by
  subst hn
  have hu : Upd kv.ownBlock.toList wr w' := (Upd.refl _ wr).grown hgr (fun q hq => Or.inl (Option.mem_toList.2 hq))
  have hlo : ∀ q ∈ kv.ownBlock.toList, b + 1 ≤ q := fun q hq => (h.c.lt q (Option.mem_toList.1 hq)).1
  have hm := hu.heap h.m (fun hm => by have := hlo _ hm; omega)
  have hl := h.lo
  have hu2 : Upd [] w w' := h.u.trans' hu (fun i hi hlt => by have := hlo i hi; omega)
  have hform : ∃ g c, v' = .slice (some ⟨g, 0, none⟩) (cs.length + ys.length) c := by
    rcases hown.2 with ⟨_, hz⟩ | ⟨g, c', _, hv, _⟩
    · omega
    · exact ⟨g, c', hv⟩
  have hs := heap_setCell hm 3 v'
  refine ⟨hform, by rw [cell_of hm]; rfl, froz_of hm 3, hu2, (hu.mono (fun i hi _ => List.mem_cons_of_mem _ hi)).setCell (.inl (by simp)) _, by simpa using hs, ?_, hu2.setCell (.inr (by show w.heap.size ≤ b; omega)) _, hl⟩
  unfold OwnX
  rw [List.length_append, xcells_app]
  refine row_upd hown ((Upd.refl [b] w').setCell (.inl (by simp)) _) (fun q hq hm => ?_)
  have := (hown.lt q hq).1
  simp at hm
  omega
/-- Another row is written. -/
theorem RfAt.keep {w' : World} {T : List Nat} (hu : Upd T wr w') (hT : ∀ i ∈ T, b + 1 ≤ i ∧ kv.ownBlock ≠ some i) : RfAt w w' b s1 s2 s3 kv cs := by
  have hl := h.lo
  exact ⟨hu.heap h.m (fun hm => by have := (hT _ hm).1; omega), row_upd h.c hu (fun k hk hm => (hT _ hm).2 hk), h.u.trans' hu (fun i hi hlt => by have := (hT i hi).1; omega), hl⟩
/-- A row of integers beside it. -/
theorem RfAt.beside {w' : World} {B : Nat} {v : Value} {xs : List Int} (ho : OwnI wr B 3 v xs) (hB : b < B) (hu : Upd (b :: kv.ownBlock.toList) wr w') : OwnI w' B 3 v xs :=
  row_upd ho hu (fun k hk hm => by
    rcases List.mem_cons.1 hm with e | e
    · have := (World.ownsRow.lt ho k hk).1; omega
    · exact own_ne ho h.c (by decide) k hk (Option.mem_toList.1 e))
theorem RfAt.upd2 {w1 w' : World} {B : Nat} {v : Value} {xs : List Int} (ho : OwnI wr B 3 v xs) (h1 : Upd [] wr w1) (hu : Upd (b :: kv.ownBlock.toList) w1 w') (hB : b < B := by omega) : OwnI w' B 3 v xs :=
  (h.upd h1).beside (ho.upd h1 (by simp)) hB hu
end
end Go.Proofs.YtpmfbhoochogoaaGreatDoor
