/- HeapShapes: its end, in plain Lean: the roots' numbers and references; both shapes are the same. Rows of objects, read. -/
import Derived.Test.YtlkflkgohclbmaaDoorShS
import Derived.Test.YtlkflkgohclbmaaDoorMir
namespace Go.Proofs.YtlkflkgohclbmaaDoor
open Go.RowKit

/-- A root's number, and its reference. -/
def rootN (rl : List Int) (q : Int) : Int := q % ((rl.length : Int) + 1) - 1
def rootR (rl : List Int) (q : Int) : Int := if 0 ≤ rootN rl q then rl.getD (rootN rl q).toNat 0 else 0

theorem rootN_bd (rl : List Int) (q : Int) : -1 ≤ rootN rl q ∧ rootN rl q < rl.length := by
  have h1 := Int.emod_nonneg q (show ((rl.length : Int) + 1) ≠ 0 by omega)
  have h2 := Int.emod_lt_of_pos q (show (0 : Int) < (rl.length : Int) + 1 by omega)
  unfold rootN
  omega

theorem root_RR (rl : List Int) (q : Int) : RR rl (rootR rl q) (rootN rl q) := by
  have h := rootN_bd rl q
  unfold rootR
  split
  · exact .inl ⟨(rootN rl q).toNat, by omega, rfl, by omega⟩
  · exact .inr ⟨rfl, by omega⟩

theorem shs_end {cs : List ByteArray} {S : Hp} {os : List (Int × List Int)} {rl : List Int} {n : Nat} (h : ShS cs S os rl n) (hn : n ≤ 60) (rs : List Int) :
    S.shape (rs.map (rootR rl)) = (objGr cs os).shapeN (os.length + 1) (rs.map (rootN rl)) := by
  have e := h.csE
  subst e
  refine h.twin.shape _ _ (by simp) (fun k hk => ?_) ?_
  · rw [List.length_map] at hk
    rw [List.getD_eq_getElem?_getD, List.getD_eq_getElem?_getD, List.getElem?_map, List.getElem?_map, List.getElem?_eq_getElem hk]
    exact root_RR rl _
  · have h1 := h.twin.len
    have h2 := h.few
    have h3 := h.lenA
    omega

theorem rootR_bd {cs : List ByteArray} {S : Hp} {os : List (Int × List Int)} {rl : List Int} {n : Nat} (h : ShS cs S os rl n) (hok : S.Ok) (q : Int) : 0 ≤ rootR rl q ∧ rootR rl q ≤ 65536 := by
  have hb := rootN_bd rl q
  unfold rootR
  split
  · have hi := h.twin.is (rootN rl q).toNat (by omega)
    have h1 := hok.le hi
    have h2 := hok.len
    omega
  · omega

/-- A row of objects whose values are rows reads as these objects. -/
theorem objsV_row {w : World} {B : Nat} {uv : Value} {ps : List OP} (hout : w.ownsRow B 61 2 uv ps.length (oflat ps)) (hvals : ∀ p ∈ ps, IntsV w p.v p.b p.xs) : ObjsV w uv (ps.map OP.o) := by
  have hl : (ps.map OP.o).length = ps.length := by simp
  rcases hout.2 with ⟨h1, h2⟩ | ⟨g, cap, cur, hv, _⟩
  · exact ⟨none, 0, by rw [hl, h1, h2], fun k hk => by rw [hl] at hk; omega⟩
  · refine ⟨_, cap, by rw [hl]; exact hv, fun k hk => ?_⟩
    rw [hl] at hk
    obtain ⟨h1, h2⟩ := oflat_get ps k hk
    have h3 := hout.cells (g := g) (by rw [hv]; rfl) _ _ h1
    have h4 := hout.cells (g := g) (by rw [hv]; rfl) _ _ h2
    rw [Addr.add_lit, Nat.zero_add] at h3 h4
    have e : (ps.map OP.o).getD k (0, []) = (ps[k].c, ps[k].xs) := by
      rw [List.getD_eq_getElem?_getD, List.getElem?_map, List.getElem?_eq_getElem hk]; rfl
    rw [e]
    exact ⟨g, _, _, rfl, h3, h4, hvals _ (List.getElem_mem hk)⟩

theorem map_snoc_take {α β : Type} (f : α → β) (l : List α) (k : Nat) (h : k < l.length) (d : α) : (l.take (k + 1)).map f = (l.take k).map f ++ [f (l.getD k d)] := by
  rw [List.take_succ_eq_append_getElem h, List.map_append, List.getD_eq_getElem?_getD, List.getElem?_eq_getElem h]; rfl

theorem OwnI.nth {w : World} {base : Nat} {e : TypeId} {v : Value} {xs : List Int} (h : OwnI w base e v xs) (k : Nat) (hk : k < xs.length) : ∃ g c, v = .slice (some ⟨g, 0, none⟩) xs.length c ∧ base ≤ g ∧ g < w.heap.size ∧ w.cell? ⟨g, k, none⟩ = some (.int .i64 (xs.getD k 0)) := by
  rcases h.form with ⟨_, h2⟩ | ⟨g, c, h1, _, h3, h4, h5⟩
  · rw [h2] at hk; simp at hk
  · exact ⟨g, c, h1, h3, h4, h5 k hk⟩

theorem OwnI.shape {w : World} {base : Nat} {e : TypeId} {v : Value} {xs : List Int} (h : OwnI w base e v xs) : ∃ p c, v = .slice p xs.length c := by
  rcases h.form with ⟨h1, h2⟩ | ⟨g, c, h1, _⟩
  · exact ⟨none, 0, by rw [h1, h2]; rfl⟩
  · exact ⟨_, c, h1⟩

/-- A row of integers of one's own is grown by one. -/
theorem OwnI.push {w w' : World} {base : Nat} {e : TypeId} {v v' : Value} {xs : List Int} {x : Int} {o : Obj} (h : OwnI w base e v xs) (hown : w'.ownsRow base e 1 v' (xs.length + 1) (xs.map (Value.int .i64) ++ [.int .i64 x]))
    (hgr : (w.alloc o).grownBy w' v.ownBlock) : OwnI w' base e v' (xs ++ [x]) ∧ Upd v.ownBlock.toList w w' ∧ (∀ k ∈ v.ownBlock.toList, base ≤ k ∧ k < w.heap.size) :=
  ⟨OwnI.snoc hown, ((Upd.refl _ w).alloc o).grown hgr (fun _ hq => Or.inl (Option.mem_toList.2 hq)), fun k hk => h.lt k (Option.mem_toList.1 hk)⟩

end Go.Proofs.YtlkflkgohclbmaaDoor
