/- flow.walk: more of it in plain Lean: bounds, a measure that is read off the memory, the walk's end. -/
import Derived.Test.YtjjkliifpdcliaaDoorWalkS
namespace Go.Proofs.YtjjkliifpdcliaaDoor
open Go.RowKit

theorem run_back (c : List (List Nat)) (s : Dfs) (t : Nat) : (Dfs.run c s t).back.length ≤ s.back.length + t := by
  induction t with
  | zero => exact Nat.le_refl _
  | succ t ih =>
    have e : Dfs.run c s (t + 1) = if (Dfs.run c s t).stk = [] then Dfs.run c s t else (Dfs.run c s t).step c := rfl
    rw [e]
    split
    · omega
    · unfold Dfs.step
      split
      · show (Dfs.run c s t).back.length ≤ _; omega
      · split
        · show (Dfs.run c s t).back.length ≤ _; omega
        · split
          · simp; omega
          · show (Dfs.run c s t).back.length ≤ _; omega

theorem edges_le {c : List (List Nat)} (hc : Clean c) : edges c ≤ c.length * c.length := by
  have key : ∀ (l : List (List Nat)) (n : Nat), (∀ x ∈ l, x.length ≤ n) → (l.map List.length).sum ≤ l.length * n := by
    intro l n
    induction l with
    | nil => intro _; simp
    | cons a t ih =>
      intro h
      have h1 := ih (fun x hx => h x (List.mem_cons_of_mem _ hx))
      have h2 := h a (by simp)
      simp only [List.map_cons, List.sum_cons, List.length_cons, Nat.succ_mul]
      omega
  refine key c c.length (fun x hx => ?_)
  obtain ⟨i, hi, rfl⟩ := List.getElem_of_mem hx
  have := hc i hi
  rw [List.getD_eq_getElem?_getD, List.getElem?_eq_getElem hi] at this
  exact len_leN _ _ this.1 this.2

/-- In the midst all is small. -/
theorem run_small {c : List (List Nat)} (hc : Clean c) (h0 : c ≠ []) (hn : c.length ≤ 1000) (t : Nat) (hs : (Dfs.run c (Dfs.init c.length) t).stk ≠ []) : (Dfs.run c (Dfs.init c.length) t).back.length ≤ 1001000 := by
  obtain ⟨h1, h2⟩ := run_inv hc h0 t
  have h3 := h1.far_le
  have h4 := run_back c (Dfs.init c.length) t
  have h5 := edges_le hc
  have h6 : c.length * c.length ≤ 1000 * 1000 := Nat.mul_le_mul hn hn
  have h7 : (Dfs.init c.length).back.length = 0 := rfl
  rcases h2 with h2 | h2
  · exact absurd h2 hs
  · omega

/-- Numbers of a block, as places. -/
def natCells (w : World) (b : Nat) : List Nat := match w.heap[b]? with
  | some (.cells c _ _) => c.toList.map fun v => (intOf v).toNat
  | _ => []
theorem natCells_eq {w : World} {b : Nat} {l : List Nat} {t : TypeId} (h : w.heap[b]? = some (.cells (icells (ints l)) t)) : natCells w b = l := by
  unfold natCells
  rw [h]
  have key : ∀ l : List Nat, ((ints l).map (Value.int .i64)).map (fun v => (intOf v).toNat) = l := by
    intro l
    induction l with
    | nil => rfl
    | cons a t ih => simp only [ints, List.map_cons, intOf, Int.toNat_natCast] at ih ⊢; rw [ih]
  exact key l
def lenV : Value → Nat
  | .slice _ n _ => n
  | _ => 0

theorem OwnI.lenV {w : World} {B : Nat} {e : TypeId} {v : Value} {xs : List Int} (h : OwnI w B e v xs) : lenV v = xs.length := by
  obtain ⟨p, c, rfl⟩ := h.shape
  rfl

theorem WkSt.far {w : World} {B sb nb : Nat} {pv bv kv : Value} {s : Dfs} {bs : List Nat} (h : WkSt w B sb nb pv bv kv s bs) (c : List (List Nat)) : lenV pv + sumTo (natCells w nb) c.length = s.far c := by
  rw [natCells_eq h.nx, h.post.lenV, ints_len]; rfl

theorem WkSt.upd0 {w w' : World} {B sb nb : Nat} {pv bv kv : Value} {s : Dfs} {bs : List Nat} (h : WkSt w B sb nb pv bv kv s bs) (hu : Upd [] w w') : WkSt w' B sb nb pv bv kv s bs :=
  ⟨hu.heap h.st (by simp), hu.heap h.nx (by simp), h.post.upd hu (by simp), h.stk.upd hu (by simp), row_upd h.back hu (by simp), h.bln, fun i hi => ⟨hu.heap (h.pair i hi).1 (by simp), (h.pair i hi).2⟩, h.ap, h.ap2, h.sB, h.nB, h.sn⟩

/-- The walk's end, in memory. -/
structure WkEnd (w : World) (G : Nat) (sb : Nat) (pv bv : Value) (s : Dfs) (bs : List Nat) : Prop where
  st : w.heap[sb]? = some (.cells (icells (ints s.st)) 3)
  sge : G ≤ sb
  post : OwnI w G 3 pv (ints s.post)
  back : w.ownsRow G 27 1 bv bs.length (bs.map pairV)
  bln : bs.length = s.back.length
  pair : ∀ i, i < bs.length → w.heap[bs.getD i 0]? = some (.cells (icells (pairL (s.back.getD i (0, 0)))) 3) ∧ G ≤ bs.getD i 0

theorem WkEnd.upd0 {w w' : World} {G sb : Nat} {pv bv : Value} {s : Dfs} {bs : List Nat} (h : WkEnd w G sb pv bv s bs) (hu : Upd [] w w') : WkEnd w' G sb pv bv s bs :=
  ⟨hu.heap h.st (by simp), h.sge, h.post.upd hu (by simp), row_upd h.back hu (by simp), h.bln, fun i hi => ⟨hu.heap (h.pair i hi).1 (by simp), (h.pair i hi).2⟩⟩

theorem WkSt.fin {w : World} {G B sb nb : Nat} {pv bv kv : Value} {s : Dfs} {bs : List Nat} (h : WkSt w B sb nb pv bv kv s bs) (h1 : G ≤ sb) (h2 : G ≤ B) : WkEnd w G sb pv bv s bs :=
  ⟨h.st, h1, row_base h.post h2, row_base h.back h2, h.bln, fun i hi => ⟨(h.pair i hi).1, Nat.le_trans h2 (h.pair i hi).2⟩⟩

end Go.Proofs.YtjjkliifpdcliaaDoor
