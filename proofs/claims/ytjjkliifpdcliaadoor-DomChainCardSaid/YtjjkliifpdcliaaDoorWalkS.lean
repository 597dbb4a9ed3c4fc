/- flow.walk: its memory, in the midst. -/
import Derived.Test.YtjjkliifpdcliaaDoorCleanW
namespace Go.Proofs.YtjjkliifpdcliaaDoor
open Go.RowKit

def pairV (b : Nat) : Value := .slice (some ⟨b, 0, none⟩) 2 2
def pairL (p : Nat × Nat) : List Int := [(p.1 : Int), (p.2 : Int)]

/-- The walk's memory: the states, the next edges, the places left, the stack, the edges back. -/
structure WkSt (w : World) (B sb nb : Nat) (pv bv kv : Value) (s : Dfs) (bs : List Nat) : Prop where
  st : w.heap[sb]? = some (.cells (icells (ints s.st)) 3)
  nx : w.heap[nb]? = some (.cells (icells (ints s.nx)) 3)
  post : OwnI w B 3 pv (ints s.post)
  stk : OwnI w B 3 kv (ints s.stk)
  back : w.ownsRow B 27 1 bv bs.length (bs.map pairV)
  bln : bs.length = s.back.length
  pair : ∀ i, i < bs.length → w.heap[bs.getD i 0]? = some (.cells (icells (pairL (s.back.getD i (0, 0)))) 3) ∧ B ≤ bs.getD i 0
  ap : ∀ k, pv.ownBlock = some k → kv.ownBlock ≠ some k
  ap2 : ∀ i, i < bs.length → pv.ownBlock ≠ some (bs.getD i 0) ∧ kv.ownBlock ≠ some (bs.getD i 0)
  sB : sb < B
  nB : nb < B
  sn : sb ≠ nb

theorem WkSt.setSt {w : World} {B sb nb : Nat} {pv bv kv : Value} {s : Dfs} {bs : List Nat} (h : WkSt w B sb nb pv bv kv s bs) (i x : Nat) : WkSt (w.setCell ⟨sb, i, none⟩ (.int .i64 (x : Int))) B sb nb pv bv kv ⟨s.st.set i x, s.nx, s.stk, s.post, s.back⟩ bs := by
  have hu : Upd [sb] w (w.setCell ⟨sb, i, none⟩ (.int .i64 (x : Int))) := (Upd.refl _ w).setCell (.inl (by simp)) _
  have hB := h.sB
  refine ⟨?_, hu.heap h.nx (by simp; exact fun e => h.sn e.symm), h.post.upd hu (fun k hk hm => by have := (h.post.lt k hk).1; simp at hm; omega), h.stk.upd hu (fun k hk hm => by have := (h.stk.lt k hk).1; simp at hm; omega),
    row_upd h.back hu (fun k hk hm => by have := (h.back.lt k hk).1; simp at hm; omega), h.bln, fun i hi => ?_, h.ap, h.ap2, h.sB, h.nB, h.sn⟩
  · rw [heap_setCell h.st, icells_set]
    have : (ints s.st).set i (x : Int) = ints (s.st.set i x) := by unfold ints; rw [List.map_set]
    rw [this]
  · obtain ⟨h1, h2⟩ := h.pair i hi
    exact ⟨hu.heap h1 (fun hm => by rw [List.mem_singleton] at hm; omega), h2⟩

theorem WkSt.setNx {w : World} {B sb nb : Nat} {pv bv kv : Value} {s : Dfs} {bs : List Nat} (h : WkSt w B sb nb pv bv kv s bs) (i x : Nat) : WkSt (w.setCell ⟨nb, i, none⟩ (.int .i64 (x : Int))) B sb nb pv bv kv ⟨s.st, s.nx.set i x, s.stk, s.post, s.back⟩ bs := by
  have hu : Upd [nb] w (w.setCell ⟨nb, i, none⟩ (.int .i64 (x : Int))) := (Upd.refl _ w).setCell (.inl (by simp)) _
  have hB := h.nB
  refine ⟨hu.heap h.st (by simp; exact h.sn), ?_, h.post.upd hu (fun k hk hm => by have := (h.post.lt k hk).1; simp at hm; omega), h.stk.upd hu (fun k hk hm => by have := (h.stk.lt k hk).1; simp at hm; omega),
    row_upd h.back hu (fun k hk hm => by have := (h.back.lt k hk).1; simp at hm; omega), h.bln, fun i hi => ?_, h.ap, h.ap2, h.sB, h.nB, h.sn⟩
  · rw [heap_setCell h.nx, icells_set]
    have : (ints s.nx).set i (x : Int) = ints (s.nx.set i x) := by unfold ints; rw [List.map_set]
    rw [this]
  · obtain ⟨h1, h2⟩ := h.pair i hi
    exact ⟨hu.heap h1 (fun hm => by rw [List.mem_singleton] at hm; omega), h2⟩

/-- Where a grown row lies: new, or where it lay. -/
theorem at_ne {w : World} {v v' : Value} {o : Obj} {k : Nat} (hat : v'.ownBlock = v.ownBlock ∨ v'.ownBlock = some (w.alloc o).heap.size) (h1 : v.ownBlock ≠ some k) (h2 : k < w.heap.size) : v'.ownBlock ≠ some k := by
  rcases hat with e | e
  · rw [e]; exact h1
  · rw [e]
    simp
    omega

theorem WkSt.pushPost {w w' : World} {B sb nb : Nat} {pv bv kv v' : Value} {s : Dfs} {bs : List Nat} {x : Nat} {o : Obj} (h : WkSt w B sb nb pv bv kv s bs)
    (hown : w'.ownsRow B 3 1 v' ((ints s.post).length + 1) ((ints s.post).map (Value.int .i64) ++ [.int .i64 (x : Int)])) (hgr : (w.alloc o).grownBy w' pv.ownBlock) (hat : v'.ownBlock = pv.ownBlock ∨ v'.ownBlock = some (w.alloc o).heap.size) :
    WkSt w' B sb nb v' bv kv ⟨s.st, s.nx, s.stk, s.post ++ [x], s.back⟩ bs ∧ Upd pv.ownBlock.toList w w' ∧ ∀ k ∈ pv.ownBlock.toList, B ≤ k := by
  obtain ⟨h1, hu, hlt⟩ := h.post.push hown hgr
  have hB1 := h.sB
  have hB2 := h.nB
  refine ⟨⟨hu.heap h.st (fun hm => by have := (hlt _ hm).1; omega), hu.heap h.nx (fun hm => by have := (hlt _ hm).1; omega), by rw [ints_snoc]; exact h1, h.stk.upd hu (fun k hk hm => h.ap k (Option.mem_toList.1 hm) hk),
    row_upd h.back hu (fun k hk hm => own_ne h.back h.post (by decide) k hk (Option.mem_toList.1 hm)), h.bln, fun i hi => ?_, fun k hk => ?_, fun i hi => ?_, h.sB, h.nB, h.sn⟩, hu, fun k hk => (hlt k hk).1⟩
  · obtain ⟨h3, h4⟩ := h.pair i hi
    exact ⟨hu.heap h3 (fun hm => (h.ap2 i hi).1 (Option.mem_toList.1 hm)), h4⟩
  · intro hk2
    have := (h.stk.lt k hk2).2
    exact at_ne hat (fun e => h.ap k e hk2) this hk
  · obtain ⟨h3, h4⟩ := h.pair i hi
    exact ⟨at_ne hat (h.ap2 i hi).1 (lt_of_heap h3), (h.ap2 i hi).2⟩

theorem WkSt.pushStk {w w' : World} {B sb nb : Nat} {pv bv kv v' : Value} {s : Dfs} {bs : List Nat} {x : Nat} {o : Obj} (h : WkSt w B sb nb pv bv kv s bs)
    (hown : w'.ownsRow B 3 1 v' ((ints s.stk).length + 1) ((ints s.stk).map (Value.int .i64) ++ [.int .i64 (x : Int)])) (hgr : (w.alloc o).grownBy w' kv.ownBlock) (hat : v'.ownBlock = kv.ownBlock ∨ v'.ownBlock = some (w.alloc o).heap.size) :
    WkSt w' B sb nb pv bv v' ⟨s.st, s.nx, s.stk ++ [x], s.post, s.back⟩ bs ∧ Upd kv.ownBlock.toList w w' ∧ ∀ k ∈ kv.ownBlock.toList, B ≤ k := by
  obtain ⟨h1, hu, hlt⟩ := h.stk.push hown hgr
  have hB1 := h.sB
  have hB2 := h.nB
  refine ⟨⟨hu.heap h.st (fun hm => by have := (hlt _ hm).1; omega), hu.heap h.nx (fun hm => by have := (hlt _ hm).1; omega), h.post.upd hu (fun k hk hm => h.ap k hk (Option.mem_toList.1 hm)), by rw [ints_snoc]; exact h1,
    row_upd h.back hu (fun k hk hm => own_ne h.back h.stk (by decide) k hk (Option.mem_toList.1 hm)), h.bln, fun i hi => ?_, fun k hk => ?_, fun i hi => ?_, h.sB, h.nB, h.sn⟩, hu, fun k hk => (hlt k hk).1⟩
  · obtain ⟨h3, h4⟩ := h.pair i hi
    exact ⟨hu.heap h3 (fun hm => (h.ap2 i hi).2 (Option.mem_toList.1 hm)), h4⟩
  · have := (h.post.lt k hk).2
    exact at_ne hat (h.ap k hk) this
  · obtain ⟨h3, h4⟩ := h.pair i hi
    exact ⟨(h.ap2 i hi).1, at_ne hat (h.ap2 i hi).2 (lt_of_heap h3)⟩

/-- The stack without its top. -/
theorem WkSt.pop {w : World} {B sb nb g c : Nat} {pv bv : Value} {s : Dfs} {bs : List Nat} (n : Nat) (hn : n ≤ s.stk.length) (h : WkSt w B sb nb pv bv (.slice (some ⟨g, 0, none⟩) s.stk.length c) s bs) :
    WkSt w B sb nb pv bv (.slice (some ⟨g, 0, none⟩) n c) ⟨s.st, s.nx, s.stk.take n, s.post, s.back⟩ bs := by
  refine ⟨h.st, h.nx, h.post, ?_, h.back, h.bln, h.pair, h.ap, h.ap2, h.sB, h.nB, h.sn⟩
  have h1 := h.stk
  unfold OwnI at h1 ⊢
  have hl : (ints (s.stk.take n)).length = n := by rw [ints_len, List.length_take]; omega
  rw [hl]
  refine ⟨by simp [ints]; omega, ?_⟩
  rcases h1.2 with ⟨h2, _⟩ | ⟨g', c', cur, h2, h3, h4, h5, h6, h7, h8⟩
  · cases h2
  · injection h2 with e1 e2 e3
    refine .inr ⟨g', c', cur, by rw [e1, e3], h3, h4, by omega, h6, h7, ?_⟩
    have : (cur.toList.take ((ints s.stk).length * 1)).take (n * 1) = cur.toList.take (n * 1) := by
      rw [List.take_take]
      congr 1
      rw [ints_len]
      omega
    show cur.toList.take (n * 1) = _
    rw [← this, h8, Nat.mul_one]
    unfold ints
    simp [List.map_take]

theorem WkSt.pushBack {w w' : World} {B sb nb : Nat} {pv bv kv v' : Value} {s : Dfs} {bs : List Nat} {i k : Nat} {o : Obj} (h : WkSt w B sb nb pv bv kv s bs) (hw : B ≤ w.heap.size)
    (hown : w'.ownsRow B 27 1 v' (bs.length + 1) (bs.map pairV ++ [pairV w.heap.size])) (hgr : ((w.alloc (.cells (icells (pairL (i, k))) 3)).alloc o).grownBy w' bv.ownBlock) :
    WkSt w' B sb nb pv v' kv ⟨s.st, s.nx, s.stk, s.post, s.back ++ [(i, k)]⟩ (bs ++ [w.heap.size]) ∧ Upd bv.ownBlock.toList w w' ∧ ∀ k ∈ bv.ownBlock.toList, B ≤ k := by
  have hu : Upd bv.ownBlock.toList w w' := (((Upd.refl _ w).alloc _).alloc o).grown hgr (fun q hq => .inl (Option.mem_toList.2 hq))
  have hlt : ∀ q ∈ bv.ownBlock.toList, B ≤ q ∧ q < w.heap.size := fun q hq => h.back.lt q (Option.mem_toList.1 hq)
  have hB1 := h.sB
  have hB2 := h.nB
  have hu1 : Upd bv.ownBlock.toList (w.alloc (.cells (icells (pairL (i, k))) 3)) w' := ((Upd.refl _ _).alloc o).grown hgr (fun q hq => .inl (Option.mem_toList.2 hq))
  have hnew := hu1.heap (heap_alloc_new w (.cells (icells (pairL (i, k))) 3)) (fun hm => by have := (hlt _ hm).2; omega)
  have hbl := h.bln
  refine ⟨⟨hu.heap h.st (fun hm => by have := (hlt _ hm).1; omega), hu.heap h.nx (fun hm => by have := (hlt _ hm).1; omega), h.post.upd hu (fun q hq hm => own_ne h.post h.back (by decide) q hq (Option.mem_toList.1 hm)),
    h.stk.upd hu (fun q hq hm => own_ne h.stk h.back (by decide) q hq (Option.mem_toList.1 hm)), by simpa using hown, by simp [hbl], fun j hj => ?_, h.ap, fun j hj => ?_, h.sB, h.nB, h.sn⟩, hu, fun q hq => (hlt q hq).1⟩
  · by_cases e : j < bs.length
    · obtain ⟨h3, h4⟩ := h.pair j e
      have e1 : (bs ++ [w.heap.size]).getD j 0 = bs.getD j 0 := by rw [List.getD_eq_getElem?_getD, List.getElem?_append_left e, List.getD_eq_getElem?_getD]
      have e2 : (s.back ++ [(i, k)]).getD j (0, 0) = s.back.getD j (0, 0) := by rw [List.getD_eq_getElem?_getD, List.getElem?_append_left (by omega), List.getD_eq_getElem?_getD]
      rw [e1, e2]
      refine ⟨hu.heap h3 (fun hm => ?_), h4⟩
      have h5 := own_heap_ne h.back h3 (by decide)
      exact h5 (Option.mem_toList.1 hm)
    · obtain rfl : j = bs.length := by simp at hj; omega
      have e1 : (bs ++ [w.heap.size]).getD bs.length 0 = w.heap.size := by simp
      have e2 : (s.back ++ [(i, k)]).getD bs.length (0, 0) = (i, k) := by rw [hbl]; simp
      rw [e1, e2]
      exact ⟨hnew, hw⟩
  · by_cases e : j < bs.length
    · have e1 : (bs ++ [w.heap.size]).getD j 0 = bs.getD j 0 := by rw [List.getD_eq_getElem?_getD, List.getElem?_append_left e, List.getD_eq_getElem?_getD]
      rw [e1]
      exact h.ap2 j e
    · obtain rfl : j = bs.length := by simp at hj; omega
      have e1 : (bs ++ [w.heap.size]).getD bs.length 0 = w.heap.size := by simp
      rw [e1]
      refine ⟨fun e => ?_, fun e => ?_⟩
      · have := (h.post.lt _ e).2; omega
      · have := (h.stk.lt _ e).2; omega

end Go.Proofs.YtjjkliifpdcliaaDoor
