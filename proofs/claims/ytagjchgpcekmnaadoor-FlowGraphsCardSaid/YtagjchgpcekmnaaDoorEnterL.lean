/- A walk in depth by calls is the walk by steps, plain: the steps, one by one. -/
import Derived.Test.YtagjchgpcekmnaaDoorWalkP
import Derived.Test.YtagjchgpcekmnaaDoorRefL
import Derived.Test.YtagjchgpcekmnaaDoorBools
namespace Go.Proofs.YtagjchgpcekmnaaDoor
open Go.RowKit

def zeros (s : Dfs) : Nat := s.st.count 0
theorem count_set_le (l : List Nat) (i x : Nat) (h : x ≠ 0) : (l.set i x).count 0 ≤ l.count 0 := by
  induction l generalizing i with
  | nil => simp
  | cons a t ih =>
    cases i with
    | zero => simp [List.count_cons, h]
    | succ i => simp only [List.set_cons_succ, List.count_cons]; have := ih i; omega
theorem count_set_lt (l : List Nat) (i x : Nat) (h : x ≠ 0) (hi : i < l.length) (h0 : l.getD i 0 = 0) : (l.set i x).count 0 + 1 = l.count 0 := by
  induction l generalizing i with
  | nil => simp at hi
  | cons a t ih =>
    cases i with
    | zero =>
      have h1 : a = 0 := by simpa using h0
      subst h1
      simp [h]
    | succ i =>
      have := ih i (by simpa using hi) (by simpa using h0)
      simp only [List.set_cons_succ, List.count_cons]
      omega
theorem top_of (s : Dfs) (stk0 : List Nat) (k : Nat) (h : s.stk = stk0 ++ [k]) : s.top = k := by
  unfold Dfs.top
  rw [h]
  simp [List.getD_eq_getElem?_getD]
/-- A place is left. -/
theorem step_leave (c : List (List Nat)) (s : Dfs) (stk0 : List Nat) (k : Nat) (h : s.stk = stk0 ++ [k]) (hq : s.nx.getD k 0 = (c.getD k []).length) :
    s.step c = ⟨s.st.set k 2, s.nx, stk0, s.post ++ [k], s.back⟩ := by
  unfold Dfs.step
  rw [top_of s stk0 k h, if_pos hq, h]
  simp
/-- The next edge leads to a place that is fresh; open; left. -/
theorem step_fresh (c : List (List Nat)) (s : Dfs) (stk0 : List Nat) (k j : Nat) (h : s.stk = stk0 ++ [k]) (hq : s.nx.getD k 0 < (c.getD k []).length) (hj : (c.getD k []).getD (s.nx.getD k 0) 0 = j) (hs : s.st.getD j 0 = 0) :
    s.step c = ⟨s.st.set j 1, s.nx.set k (s.nx.getD k 0 + 1), (stk0 ++ [k]) ++ [j], s.post, s.back⟩ := by
  unfold Dfs.step
  rw [top_of s stk0 k h, if_neg (by omega), hj, if_pos hs, h]
theorem step_open (c : List (List Nat)) (s : Dfs) (stk0 : List Nat) (k j : Nat) (h : s.stk = stk0 ++ [k]) (hq : s.nx.getD k 0 < (c.getD k []).length) (hj : (c.getD k []).getD (s.nx.getD k 0) 0 = j) (hs : s.st.getD j 0 = 1) :
    s.step c = ⟨s.st, s.nx.set k (s.nx.getD k 0 + 1), stk0 ++ [k], s.post, s.back ++ [(k, j)]⟩ := by
  unfold Dfs.step
  rw [top_of s stk0 k h, if_neg (by omega), hj, if_neg (by omega), if_pos hs, h]
theorem step_left (c : List (List Nat)) (s : Dfs) (stk0 : List Nat) (k j : Nat) (h : s.stk = stk0 ++ [k]) (hq : s.nx.getD k 0 < (c.getD k []).length) (hj : (c.getD k []).getD (s.nx.getD k 0) 0 = j) (hs0 : s.st.getD j 0 ≠ 0) (hs1 : s.st.getD j 0 ≠ 1) :
    s.step c = ⟨s.st, s.nx.set k (s.nx.getD k 0 + 1), stk0 ++ [k], s.post, s.back⟩ := by
  unfold Dfs.step
  rw [top_of s stk0 k h, if_neg (by omega), hj, if_neg hs0, if_neg hs1, h]

/-- What is seen, what is open, read off the states. -/
def seF (st : List Nat) (j : Nat) : Bool := decide (st.getD j 0 ≠ 0)
def opF (st : List Nat) (j : Nat) : Bool := decide (st.getD j 0 = 1)
def butF (f : Nat → Bool) (k j : Nat) : Bool := f j && !(j == k)
theorem but_mark (f : Nat → Bool) (k : Nat) (h : f k = true) (j : Nat) : (butF f k j || j == k) = f j := by
  unfold butF
  by_cases e : j = k
  · subst e; simp [h]
  · have : (j == k) = false := by rw [beq_eq_false_iff_ne]; exact e
    simp [this]
theorem se_fresh (st : List Nat) (j i : Nat) (hj : j < st.length) (h0 : st.getD j 0 = 0) : butF (seF (st.set j 1)) j i = seF st i := by
  unfold butF seF
  by_cases e : i = j
  · subst e; rw [h0]; simp
  · rw [getD_set_ne _ _ _ _ _ (fun e2 => e e2.symm)]
    have : (i == j) = false := by rw [beq_eq_false_iff_ne]; exact e
    simp [this]
theorem op_fresh (st : List Nat) (j i : Nat) (hj : j < st.length) (h0 : st.getD j 0 = 0) : butF (opF (st.set j 1)) j i = opF st i := by
  unfold butF opF
  by_cases e : i = j
  · subst e; rw [h0]; simp
  · rw [getD_set_ne _ _ _ _ _ (fun e2 => e e2.symm)]
    have : (i == j) = false := by rw [beq_eq_false_iff_ne]; exact e
    simp [this]
theorem se_leave (st : List Nat) (k i : Nat) (hk : k < st.length) (h1 : st.getD k 0 = 1) : seF (st.set k 2) i = seF st i := by
  unfold seF
  by_cases e : k = i
  · subst e; rw [getD_set_eq _ _ _ _ hk, h1]; simp
  · rw [getD_set_ne _ _ _ _ _ e]
theorem op_leave (st : List Nat) (k i : Nat) (hk : k < st.length) : opF (st.set k 2) i = butF (opF st) k i := by
  unfold opF butF
  by_cases e : k = i
  · subst e; rw [getD_set_eq _ _ _ _ hk]; simp
  · rw [getD_set_ne _ _ _ _ _ e]
    have : (i == k) = false := by rw [beq_eq_false_iff_ne]; exact fun e2 => e e2.symm
    simp [this]
theorem tabB_off (N : Nat) (f : Nat → Bool) (p : Nat) : (tabB N f).set p false = tabB N (butF f p) := by
  unfold tabB butF
  apply List.ext_getElem
  · simp
  · intro k h1 h2
    simp only [List.getElem_set, List.getElem_map, List.getElem_range]
    by_cases e : p = k
    · subst e; simp
    · rw [if_neg e]
      have : (k == p) = false := by rw [beq_eq_false_iff_ne]; exact fun e2 => e e2.symm
      simp [this]

/-- The walk by calls, in memory. -/
structure EM (w0 w : World) (hw hs ho n : Nat) (cv : Value) (se op : Nat → Bool) (post : List Nat) (back : List (Nat × Nat)) (lv bv : Value) (bs : List Nat) : Prop where
  upd : Upd [hw, hs, ho] w0 w
  blk : w.heap[hw]? = some (.cells #[cv, .slice (some ⟨hs, 0, none⟩) n n, .slice (some ⟨ho, 0, none⟩) n n, lv, bv] 76)
  seb : w.heap[hs]? = some (.cells (bcells (tabB n se)) 4)
  opb : w.heap[ho]? = some (.cells (bcells (tabB n op)) 4)
  left : OwnI w w0.heap.size 3 lv (ints post)
  loops : w.ownsRow w0.heap.size 28 1 bv bs.length (bs.map pairV)
  bln : bs.length = back.length
  pair : ∀ i, i < bs.length → w.heap[bs.getD i 0]? = some (.cells (icells (pairL (back.getD i (0, 0)))) 3) ∧ w0.heap.size ≤ bs.getD i 0
  ap : ∀ i, i < bs.length → lv.ownBlock ≠ some (bs.getD i 0)
  lt : hw < w0.heap.size ∧ hs < w0.heap.size ∧ ho < w0.heap.size
  ne : hw ≠ hs ∧ hw ≠ ho ∧ hs ≠ ho

theorem EM.congr {w0 w : World} {hw hs ho n : Nat} {cv : Value} {se op se2 op2 : Nat → Bool} {post : List Nat} {back : List (Nat × Nat)} {lv bv : Value} {bs : List Nat} (h : EM w0 w hw hs ho n cv se op post back lv bv bs) (h1 : ∀ i, se i = se2 i) (h2 : ∀ i, op i = op2 i) : EM w0 w hw hs ho n cv se2 op2 post back lv bv bs := by
  rw [← show se = se2 from funext h1, ← show op = op2 from funext h2]; exact h
theorem EM.upd0 {w0 w w' : World} {hw hs ho n : Nat} {cv : Value} {se op : Nat → Bool} {post : List Nat} {back : List (Nat × Nat)} {lv bv : Value} {bs : List Nat} (h : EM w0 w hw hs ho n cv se op post back lv bv bs) (hu : Upd [] w w') : EM w0 w' hw hs ho n cv se op post back lv bv bs :=
  ⟨h.upd.trans' hu (by simp), hu.heap h.blk (by simp), hu.heap h.seb (by simp), hu.heap h.opb (by simp), h.left.upd hu (by simp), row_upd h.loops hu (by simp), h.bln, fun i hi => ⟨hu.heap (h.pair i hi).1 (by simp), (h.pair i hi).2⟩, h.ap, h.lt, h.ne⟩

/-- A change of one of the three blocks. -/
theorem EM.low {w0 w w' : World} {hw hs ho n k : Nat} {cv : Value} {se op : Nat → Bool} {post : List Nat} {back : List (Nat × Nat)} {lv bv : Value} {bs : List Nat} (h : EM w0 w hw hs ho n cv se op post back lv bv bs) (hu : Upd [k] w w') (hk : k < w0.heap.size) (hk3 : k ∈ [hw, hs, ho]) :
    Upd [hw, hs, ho] w0 w' ∧ OwnI w' w0.heap.size 3 lv (ints post) ∧ w'.ownsRow w0.heap.size 28 1 bv bs.length (bs.map pairV) ∧ ∀ i, i < bs.length → w'.heap[bs.getD i 0]? = some (.cells (icells (pairL (back.getD i (0, 0)))) 3) ∧ w0.heap.size ≤ bs.getD i 0 := by
  refine ⟨h.upd.trans' hu (fun q hq _ => by rw [List.mem_singleton] at hq; rw [hq]; exact hk3), h.left.upd hu (fun q hq hm => ?_), row_upd h.loops hu (fun q hq hm => ?_), fun i hi => ?_⟩
  · have := (h.left.lt q hq).1; rw [List.mem_singleton] at hm; omega
  · have := (h.loops.lt q hq).1; rw [List.mem_singleton] at hm; omega
  · obtain ⟨h1, h2⟩ := h.pair i hi
    exact ⟨hu.heap h1 (fun hm => by rw [List.mem_singleton] at hm; omega), h2⟩
theorem EM.seSet {w0 w : World} {hw hs ho n : Nat} {cv : Value} {se op : Nat → Bool} {post : List Nat} {back : List (Nat × Nat)} {lv bv : Value} {bs : List Nat} (h : EM w0 w hw hs ho n cv se op post back lv bv bs) (p : Nat) :
    EM w0 (w.setCell ⟨hs, p, none⟩ (.bool true)) hw hs ho n cv (fun k => se k || k == p) op post back lv bv bs := by
  have hu : Upd [hs] w (w.setCell ⟨hs, p, none⟩ (.bool true)) := (Upd.refl _ w).setCell (.inl (by simp)) _
  obtain ⟨h1, h2, h3, h4⟩ := h.low hu h.lt.2.1 (by simp)
  have n1 := h.ne.1
  have n3 := h.ne.2.2
  refine ⟨h1, hu.heap h.blk (by simp; exact n1), ?_, hu.heap h.opb (by simp; exact fun e => n3 e.symm), h2, h3, h.bln, h4, h.ap, h.lt, h.ne⟩
  rw [heap_setCell h.seb, bcells_set, tabB_set]
theorem EM.opSet {w0 w : World} {hw hs ho n : Nat} {cv : Value} {se op : Nat → Bool} {post : List Nat} {back : List (Nat × Nat)} {lv bv : Value} {bs : List Nat} (h : EM w0 w hw hs ho n cv se op post back lv bv bs) (p : Nat) :
    EM w0 (w.setCell ⟨ho, p, none⟩ (.bool true)) hw hs ho n cv se (fun k => op k || k == p) post back lv bv bs := by
  have hu : Upd [ho] w (w.setCell ⟨ho, p, none⟩ (.bool true)) := (Upd.refl _ w).setCell (.inl (by simp)) _
  obtain ⟨h1, h2, h3, h4⟩ := h.low hu h.lt.2.2 (by simp)
  have n2 := h.ne.2.1
  have n3 := h.ne.2.2
  refine ⟨h1, hu.heap h.blk (by simp; exact n2), hu.heap h.seb (by simp; exact n3), ?_, h2, h3, h.bln, h4, h.ap, h.lt, h.ne⟩
  rw [heap_setCell h.opb, bcells_set, tabB_set]
theorem EM.opOff {w0 w : World} {hw hs ho n : Nat} {cv : Value} {se op : Nat → Bool} {post : List Nat} {back : List (Nat × Nat)} {lv bv : Value} {bs : List Nat} (h : EM w0 w hw hs ho n cv se op post back lv bv bs) (p : Nat) :
    EM w0 (w.setCell ⟨ho, p, none⟩ (.bool false)) hw hs ho n cv se (butF op p) post back lv bv bs := by
  have hu : Upd [ho] w (w.setCell ⟨ho, p, none⟩ (.bool false)) := (Upd.refl _ w).setCell (.inl (by simp)) _
  obtain ⟨h1, h2, h3, h4⟩ := h.low hu h.lt.2.2 (by simp)
  have n2 := h.ne.2.1
  have n3 := h.ne.2.2
  refine ⟨h1, hu.heap h.blk (by simp; exact n2), hu.heap h.seb (by simp; exact n3), ?_, h2, h3, h.bln, h4, h.ap, h.lt, h.ne⟩
  rw [heap_setCell h.opb, bcells_set, tabB_off]
/-- A place is put among those that are left: the row grows, and is stored. -/
theorem EM.pushLeft {w0 w w' : World} {hw hs ho n : Nat} {cv : Value} {se op : Nat → Bool} {post : List Nat} {back : List (Nat × Nat)} {lv bv v' : Value} {bs : List Nat} {x : Nat} {o : Obj} (h : EM w0 w hw hs ho n cv se op post back lv bv bs)
    (hown : w'.ownsRow w0.heap.size 3 1 v' ((ints post).length + 1) ((ints post).map (Value.int .i64) ++ [.int .i64 (x : Int)])) (hgr : (w.alloc o).grownBy w' lv.ownBlock) (hat : v'.ownBlock = lv.ownBlock ∨ v'.ownBlock = some (w.alloc o).heap.size) :
    w'.frozen? ⟨hw, 3, none⟩ = false ∧ w'.cell? ⟨hw, 3, none⟩ = some lv ∧ w'.cell? ⟨hw, 4, none⟩ = some bv ∧ EM w0 (w'.setCell ⟨hw, 3, none⟩ v') hw hs ho n cv se op (post ++ [x]) back v' bv bs := by
  obtain ⟨h1, hu, hlt⟩ := h.left.push hown hgr
  have l1 := h.lt.1
  have l2 := h.lt.2.1
  have l3 := h.lt.2.2
  have nin : ∀ k, k < w0.heap.size → k ∉ lv.ownBlock.toList := fun k hk hm => by have := (hlt k hm).1; omega
  have hb := hu.heap h.blk (nin _ l1)
  have hu2 : Upd [hw] w' (w'.setCell ⟨hw, 3, none⟩ v') := (Upd.refl _ w').setCell (.inl (by simp)) _
  have hs' := h.upd.size
  refine ⟨froz_of hb 3, by rw [cell_of hb]; rfl, by rw [cell_of hb]; rfl, ⟨(h.upd.trans' hu (fun q hq hq2 => by have := (hlt q hq).1; omega)).trans' hu2 (fun q hq _ => by rw [List.mem_singleton] at hq; rw [hq]; simp), ?_, hu2.heap (hu.heap h.seb (nin _ l2)) (by simp; exact fun e => h.ne.1 e.symm), hu2.heap (hu.heap h.opb (nin _ l3)) (by simp; exact fun e => h.ne.2.1 e.symm), ?_,
    row_upd (row_upd h.loops hu (fun k hk hm => own_ne h.loops h.left (by decide) k hk (Option.mem_toList.1 hm))) hu2 (fun k hk hm => by have := (h.loops.lt k hk).1; rw [List.mem_singleton] at hm; omega), h.bln, fun i hi => ?_, fun i hi => ?_, h.lt, h.ne⟩⟩
  · rw [heap_setCell hb]; rfl
  · rw [ints_snoc]
    exact OwnI.upd h1 hu2 (fun k hk hm => by have := (h1.lt k hk).1; rw [List.mem_singleton] at hm; omega)
  · obtain ⟨h3, h4⟩ := h.pair i hi
    exact ⟨hu2.heap (hu.heap h3 (fun hm => h.ap i hi (Option.mem_toList.1 hm))) (fun hm => by rw [List.mem_singleton] at hm; omega), h4⟩
  · exact at_ne hat (h.ap i hi) (lt_of_heap (h.pair i hi).1)

/-- An edge back is put in: its two places, in new memory. -/
theorem EM.pushLoop {w0 w w' : World} {hw hs ho n : Nat} {cv : Value} {se op : Nat → Bool} {post : List Nat} {back : List (Nat × Nat)} {lv bv v' : Value} {bs : List Nat} {i k : Nat} {o : Obj} (h : EM w0 w hw hs ho n cv se op post back lv bv bs)
    (hown : w'.ownsRow w0.heap.size 28 1 v' (bs.length + 1) (bs.map pairV ++ [pairV w.heap.size])) (hgr : ((w.alloc (.cells (icells (pairL (i, k))) 3)).alloc o).grownBy w' bv.ownBlock) :
    w'.frozen? ⟨hw, 4, none⟩ = false ∧ w'.cell? ⟨hw, 4, none⟩ = some bv ∧ EM w0 (w'.setCell ⟨hw, 4, none⟩ v') hw hs ho n cv se op post (back ++ [(i, k)]) lv v' (bs ++ [w.heap.size]) := by
  have hu : Upd bv.ownBlock.toList w w' := (((Upd.refl _ w).alloc _).alloc o).grown hgr (fun q hq => .inl (Option.mem_toList.2 hq))
  have hlt : ∀ q ∈ bv.ownBlock.toList, w0.heap.size ≤ q ∧ q < w.heap.size := fun q hq => h.loops.lt q (Option.mem_toList.1 hq)
  have hu1 : Upd bv.ownBlock.toList (w.alloc (.cells (icells (pairL (i, k))) 3)) w' := ((Upd.refl _ _).alloc o).grown hgr (fun q hq => .inl (Option.mem_toList.2 hq))
  have hnew := hu1.heap (heap_alloc_new w (.cells (icells (pairL (i, k))) 3)) (fun hm => by have := (hlt _ hm).2; omega)
  have l1 := h.lt.1
  have l2 := h.lt.2.1
  have l3 := h.lt.2.2
  have hbl := h.bln
  have hsz := h.upd.size
  have nin : ∀ k, k < w0.heap.size → k ∉ bv.ownBlock.toList := fun k hk hm => by have := (hlt k hm).1; omega
  have hb := hu.heap h.blk (nin _ l1)
  have hu2 : Upd [hw] w' (w'.setCell ⟨hw, 4, none⟩ v') := (Upd.refl _ w').setCell (.inl (by simp)) _
  refine ⟨froz_of hb 4, by rw [cell_of hb]; rfl, ⟨(h.upd.trans' hu (fun q hq hq2 => by have := (hlt q hq).1; omega)).trans' hu2 (fun q hq _ => by rw [List.mem_singleton] at hq; rw [hq]; simp), ?_, hu2.heap (hu.heap h.seb (nin _ l2)) (by simp; exact fun e => h.ne.1 e.symm), hu2.heap (hu.heap h.opb (nin _ l3)) (by simp; exact fun e => h.ne.2.1 e.symm),
    (h.left.upd hu (fun q hq hm => own_ne h.left h.loops (by decide) q hq (Option.mem_toList.1 hm))).upd hu2 (fun q hq hm => by have := (h.left.lt q hq).1; rw [List.mem_singleton] at hm; omega),
    row_upd (by simpa using hown) hu2 (fun q hq hm => by have := (hown.lt q hq).1; rw [List.mem_singleton] at hm; omega), by simp [hbl], fun j hj => ?_, fun j hj => ?_, h.lt, h.ne⟩⟩
  · rw [heap_setCell hb]; rfl
  · by_cases e : j < bs.length
    · obtain ⟨h3, h4⟩ := h.pair j e
      have e1 : (bs ++ [w.heap.size]).getD j 0 = bs.getD j 0 := by rw [List.getD_eq_getElem?_getD, List.getElem?_append_left e, List.getD_eq_getElem?_getD]
      have e2 : (back ++ [(i, k)]).getD j (0, 0) = back.getD j (0, 0) := by rw [List.getD_eq_getElem?_getD, List.getElem?_append_left (by omega), List.getD_eq_getElem?_getD]
      rw [e1, e2]
      refine ⟨hu2.heap (hu.heap h3 (fun hm => ?_)) (fun hm => by rw [List.mem_singleton] at hm; omega), h4⟩
      exact own_heap_ne h.loops h3 (by decide) (Option.mem_toList.1 hm)
    · obtain rfl : j = bs.length := by simp at hj; omega
      have e1 : (bs ++ [w.heap.size]).getD bs.length 0 = w.heap.size := by simp
      have e2 : (back ++ [(i, k)]).getD bs.length (0, 0) = (i, k) := by rw [hbl]; simp
      rw [e1, e2]
      exact ⟨hu2.heap hnew (fun hm => by rw [List.mem_singleton] at hm; omega), hsz⟩
  · by_cases e : j < bs.length
    · have e1 : (bs ++ [w.heap.size]).getD j 0 = bs.getD j 0 := by rw [List.getD_eq_getElem?_getD, List.getElem?_append_left e, List.getD_eq_getElem?_getD]
      rw [e1]
      exact h.ap j e
    · obtain rfl : j = bs.length := by simp at hj; omega
      have e1 : (bs ++ [w.heap.size]).getD bs.length 0 = w.heap.size := by simp
      rw [e1]
      intro e
      have := (h.left.lt _ e).2; omega

end Go.Proofs.YtagjchgpcekmnaaDoor
