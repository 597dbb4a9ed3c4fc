/- The document's Shape: its memory. The document's Shape: the walk. -/
import Derived.Test.YtneeljhjfmcdoaaDoorMet
import Derived.Test.YtneeljhjfmcdoaaDoorSameO
import Derived.Deep.DeepCutAuto
import Derived.Deep.RegionHeld3
/-! The document's Shape: its memory. -/
namespace Go.Proofs.YtneeljhjfmcdoaaDoor
open Go.RowKit

/-- The document's Shape's own memory, from block B on: the program's box, the numbers; the order's row. -/
structure RShp (w : World) (B : Nat) (cv mv : Value) (N : Nat) (ov : Value) (od : List Int) : Prop where
  box : w.heap[B]? = some (.cells #[cv, mv] 28)
  num : w.heap[B + 1]? = some (.cells (icells (numArr od N)) 3)
  row : w.ownsRow (B + 2) 2 1 ov od.length (od.map (Value.int .i64))
  nd : od.Nodup
  obj : ∀ r ∈ od, 0 ≤ r ∧ r < N

theorem RShp.upd {w w' : World} {B : Nat} {cv mv : Value} {N : Nat} {ov : Value} {od : List Int} {T : List Nat} (h : RShp w B cv mv N ov od) (hu : Upd T w w') (hT : ∀ k ∈ T, B + 2 ≤ k ∧ ov.ownBlock ≠ some k) : RShp w' B cv mv N ov od := by
  have hno : ∀ k, k < B + 2 → k ∉ T := fun k hk hm => by have := (hT k hm).1; omega
  exact ⟨hu.heap h.box (hno _ (by omega)), hu.heap h.num (hno _ (by omega)), row_upd h.row hu (fun k hk hm => (hT k hm).2 hk), h.nd, h.obj⟩

theorem RShp.few {w : World} {B : Nat} {cv mv : Value} {N : Nat} {ov : Value} {od : List Int} (h : RShp w B cv mv N ov od) : od.length ≤ N := by
  have := len_le N (od.map (· + 1)) (by
    unfold List.Nodup
    rw [List.pairwise_map]
    exact h.nd.imp (fun hne e => hne (by omega))) (fun r hr => by
    obtain ⟨q, hq, rfl⟩ := List.mem_map.1 hr
    have := h.obj q hq
    omega)
  simpa using this

theorem RShp.form {w : World} {B : Nat} {cv mv : Value} {N : Nat} {ov : Value} {od : List Int} (h : RShp w B cv mv N ov od) : ∃ p c, ov = .slice p od.length c := by
  rcases h.row.2 with ⟨h1, h2⟩ | ⟨g, c, _, h1, _⟩
  · exact ⟨none, 0, by rw [h1, h2]⟩
  · exact ⟨_, c, h1⟩

/-- Which blocks met may have written. -/
def RMet (B : Nat) (ov ov' : Value) (w w' : World) : Prop := Upd ([B + 1] ++ ov.ownBlock.toList) w w' ∧ (ov'.ownBlock = ov.ownBlock ∨ ∃ k, ov'.ownBlock = some k ∧ w.heap.size ≤ k)

theorem mO_nd {N : Nat} {od : List Int} {r : Int} (h : od.Nodup) : (mO N od r).Nodup := by
  unfold mO
  split
  · rename_i hc
    rw [List.nodup_append]
    exact ⟨h, by simp, by intro a ha b hb e; simp at hb; subst hb; subst e; exact hc.2 ha⟩
  · exact h
theorem mO_obj {N : Nat} {od : List Int} {r : Int} (h : ∀ q ∈ od, 0 ≤ q ∧ q < (N : Int)) : ∀ q ∈ mO N od r, 0 ≤ q ∧ q < (N : Int) := by
  unfold mO
  split
  · rename_i hc
    intro q hq
    rcases List.mem_append.1 hq with h1 | h1
    · exact h q h1
    · simp at h1; subst h1; exact hc.1
  · exact h

/-- The memory in the midst of Shape. -/
structure ROut (w : World) (B : Nat) (cv mv : Value) (N : Nat) (ov : Value) (od : List Int) (av : Value) (ats : List Int) (uv : Value) (ps : List OP) : Prop where
  sh : RShp w B cv mv N ov od
  ats : w.ownsRow (B + 2) 3 1 av ats.length (ats.map (Value.int .i64))
  out : w.ownsRow (B + 2) 106 2 uv ps.length (oflat ps)
  vals : ∀ p ∈ ps, IntsV w p.v p.b p.xs ∧ (p.xs = [] ∨ B + 2 ≤ p.b ∧ p.b < w.heap.size ∧ ov.ownBlock ≠ some p.b ∧ uv.ownBlock ≠ some p.b)
  d1 : Apart av ov
  d2 : Apart uv ov
  d3 : Apart uv av

/-- Blocks that are none of it. -/
def RFree (B : Nat) (ov av uv : Value) (ps : List OP) (k : Nat) : Prop :=
  B + 2 ≤ k ∧ ov.ownBlock ≠ some k ∧ av.ownBlock ≠ some k ∧ uv.ownBlock ≠ some k ∧ ∀ p ∈ ps, p.xs = [] ∨ p.b ≠ k

theorem ROut.upd {w w' : World} {B : Nat} {cv mv : Value} {N : Nat} {ov : Value} {od : List Int} {av : Value} {ats : List Int} {uv : Value} {ps : List OP} {T : List Nat} (h : ROut w B cv mv N ov od av ats uv ps) (hu : Upd T w w')
    (hT : ∀ k ∈ T, RFree B ov av uv ps k) : ROut w' B cv mv N ov od av ats uv ps := by
  refine ⟨h.sh.upd hu (fun k hk => ⟨(hT k hk).1, (hT k hk).2.1⟩), row_upd h.ats hu (fun k hk hm => (hT k hm).2.2.1 hk), row_upd h.out hu (fun k hk hm => (hT k hm).2.2.2.1 hk), fun p hp => ?_, h.d1, h.d2, h.d3⟩
  obtain ⟨h1, h2⟩ := h.vals p hp
  refine ⟨h1.upd hu ?_, ?_⟩
  · rcases h2 with h2 | h2
    · exact .inl h2
    · by_cases hx : p.xs = []
      · exact .inl hx
      · refine .inr (fun hm => ?_)
        rcases (hT _ hm).2.2.2.2 p hp with h3 | h3
        · exact hx h3
        · exact h3 rfl
  · rcases h2 with h2 | ⟨h2, h3, h4⟩
    · exact .inl h2
    · exact .inr ⟨h2, Nat.lt_of_lt_of_le h3 hu.size, h4⟩

/-- Behind the closure. -/
theorem ROut.met {w w' : World} {B : Nat} {cv mv : Value} {N : Nat} {ov ov' : Value} {od od' : List Int} {av : Value} {ats : List Int} {uv : Value} {ps : List OP} (h : ROut w B cv mv N ov od av ats uv ps)
    (hs : RShp w' B cv mv N ov' od') (hm : RMet B ov ov' w w') : ROut w' B cv mv N ov' od' av ats uv ps := by
  obtain ⟨hu, ho⟩ := hm
  have hav := h.ats.lt
  have huv := h.out.lt
  have hin : ∀ k, B + 2 ≤ k → ov.ownBlock ≠ some k → k ∉ [B + 1] ++ ov.ownBlock.toList := by
    intro k h1 h2 h3
    simp only [List.mem_append, List.mem_cons, List.not_mem_nil, or_false, Option.mem_toList] at h3
    rcases h3 with h3 | h3
    · omega
    · exact h2 h3
  have hnew : ∀ k, k < w.heap.size → ov.ownBlock ≠ some k → ov'.ownBlock ≠ some k := by
    intro k h1 h2 h3
    rcases ho with ho | ⟨j, hj, hj2⟩
    · exact h2 (ho ▸ h3)
    · rw [hj] at h3; injection h3 with h3; omega
  refine ⟨hs, row_upd h.ats hu (fun k hk => hin k (hav k hk).1 (h.d1 k hk)), row_upd h.out hu (fun k hk => hin k (huv k hk).1 (h.d2 k hk)), fun p hp => ?_, fun k hk => hnew k (hav k hk).2 (h.d1 k hk), fun k hk => hnew k (huv k hk).2 (h.d2 k hk), h.d3⟩
  obtain ⟨h1, h2⟩ := h.vals p hp
  rcases h2 with h2 | ⟨h2, h3, h4, h5⟩
  · exact ⟨h1.upd hu (.inl h2), .inl h2⟩
  · exact ⟨h1.upd hu (.inr (hin _ h2 h4)), .inr ⟨h2, Nat.lt_of_lt_of_le h3 hu.size, hnew _ h3 h4, h5⟩⟩

/-- The output is grown by one object whose values' block is known. -/
theorem ROut.push {w w' : World} {B : Nat} {cv mv : Value} {N : Nat} {ov : Value} {od : List Int} {av : Value} {ats : List Int} {uv uv' : Value} {ps : List OP} (h : ROut w B cv mv N ov od av ats uv ps)
    (q : OP) (hq : IntsV w q.v q.b q.xs) (hqb : q.xs = [] ∨ B + 2 ≤ q.b ∧ q.b < w.heap.size ∧ ov.ownBlock ≠ some q.b ∧ uv.ownBlock ≠ some q.b)
    (hrow : w'.ownsRow (B + 2) 106 2 uv' (ps.length + 1) (oflat ps ++ [Value.int .i64 q.c, q.v])) (hg : w.grownBy w' uv.ownBlock) (hat : uv'.ownBlock = uv.ownBlock ∨ uv'.ownBlock = some w.heap.size) :
    ROut w' B cv mv N ov od av ats uv' (ps ++ [q]) := by
  have hu : Upd uv.ownBlock.toList w w' := (Upd.refl _ w).grown hg (fun k hk => Or.inl (Option.mem_toList.2 hk))
  have huv := h.out.lt
  have hav := h.ats.lt
  have hov := h.sh.row.lt
  have hne : ∀ k, k < w.heap.size → uv.ownBlock ≠ some k → uv'.ownBlock ≠ some k := by
    intro k h1 h2 h3
    rcases hat with ho | ho
    · exact h2 (ho ▸ h3)
    · rw [ho] at h3; injection h3 with h3; omega
  have hap : ∀ (x : Value) , (∀ k, x.ownBlock = some k → k < w.heap.size) → Apart uv x → Apart uv' x := by
    intro x hx ha k hk hk2
    have h1 := hx k hk2
    exact hne k h1 (fun e => ha k e hk2) hk
  refine ⟨h.sh.upd hu (fun k hk => ?_), row_upd h.ats hu (fun k hk hm => ?_), ?_, fun p hp => ?_, h.d1, hap _ (fun k hk => (hov k hk).2) h.d2, hap _ (fun k hk => (hav k hk).2) h.d3⟩
  · have hk' := Option.mem_toList.1 hk
    exact ⟨(huv k hk').1, fun e => h.d2 k hk' e⟩
  · exact h.d3 k (Option.mem_toList.1 hm) hk
  · rw [oflat_snoc, List.length_append]
    exact hrow
  · rcases List.mem_append.1 hp with hp | hp
    · obtain ⟨h1, h2⟩ := h.vals p hp
      rcases h2 with h2 | ⟨h2, h3, h4, h5⟩
      · exact ⟨h1.upd hu (.inl h2), .inl h2⟩
      · exact ⟨h1.upd hu (.inr (fun hm => h5 (Option.mem_toList.1 hm))), .inr ⟨h2, Nat.lt_of_lt_of_le h3 hu.size, h4, hne _ h3 h5⟩⟩
    · simp only [List.mem_singleton] at hp
      subst hp
      rcases hqb with h2 | ⟨h2, h3, h4, h5⟩
      · exact ⟨hq.upd hu (.inl h2), .inl h2⟩
      · exact ⟨hq.upd hu (.inr (fun hm => h5 (Option.mem_toList.1 hm))), .inr ⟨h2, Nat.lt_of_lt_of_le h3 hu.size, h4, hne _ h3 h5⟩⟩

/-- The memory in the midst of one object: its box, its values' row. -/
structure ROb (w : World) (B : Nat) (cv mv : Value) (N : Nat) (ov : Value) (od : List Int) (av : Value) (ats : List Int) (uv : Value) (ps : List OP) (ob : Nat) (c : Int) (vv : Value) (xs : List Int) : Prop where
  st : ROut w B cv mv N ov od av ats uv ps
  box : w.heap[ob]? = some (.cells #[.int .i64 c, vv] 106)
  row : w.ownsRow (B + 2) 2 1 vv xs.length (xs.map (Value.int .i64))
  fb : RFree B ov av uv ps ob
  fv : ∀ k, vv.ownBlock = some k → RFree B ov av uv ps k ∧ k ≠ ob

theorem RFree.met {w w' : World} {B : Nat} {ov ov' av uv : Value} {ps : List OP} {k : Nat} (h : RFree B ov av uv ps k) (hk : k < w.heap.size) (hm : RMet B ov ov' w w') : RFree B ov' av uv ps k := by
  refine ⟨h.1, ?_, h.2.2.1, h.2.2.2.1, h.2.2.2.2⟩
  rcases hm.2 with ho | ⟨j, hj, hj2⟩
  · rw [ho]; exact h.2.1
  · rw [hj]; intro e; injection e with e; omega

theorem RFree.notin {B : Nat} {ov av uv : Value} {ps : List OP} {k : Nat} (h : RFree B ov av uv ps k) : k ∉ [B + 1] ++ ov.ownBlock.toList := by
  intro h3
  simp only [List.mem_append, List.mem_cons, List.not_mem_nil, or_false, Option.mem_toList] at h3
  rcases h3 with h3 | h3
  · have := h.1; omega
  · exact h.2.1 h3

theorem ROb.met {w w' : World} {B : Nat} {cv mv : Value} {N : Nat} {ov ov' : Value} {od od' : List Int} {av : Value} {ats : List Int} {uv : Value} {ps : List OP} {ob : Nat} {c : Int} {vv : Value} {xs : List Int} (h : ROb w B cv mv N ov od av ats uv ps ob c vv xs)
    (hs : RShp w' B cv mv N ov' od') (hm : RMet B ov ov' w w') : ROb w' B cv mv N ov' od' av ats uv ps ob c vv xs :=
  ⟨h.st.met hs hm, hm.1.heap h.box h.fb.notin, row_upd h.row hm.1 (fun k hk => (h.fv k hk).1.notin), h.fb.met (lt_of_heap h.box) hm, fun k hk => ⟨(h.fv k hk).1.met (h.row.lt k hk).2 hm, (h.fv k hk).2⟩⟩

/-- One value more. -/
theorem ROb.push {w w' : World} {B : Nat} {cv mv : Value} {N : Nat} {ov : Value} {od : List Int} {av : Value} {ats : List Int} {uv : Value} {ps : List OP} {ob : Nat} {c : Int} {vv vv' : Value} {xs : List Int} (h : ROb w B cv mv N ov od av ats uv ps ob c vv xs)
    (x : Int) (hrow : w'.ownsRow (B + 2) 2 1 vv' (xs.length + 1) (xs.map (Value.int .i64) ++ [.int .i64 x])) (hg : w.grownBy w' vv.ownBlock) (hat : vv'.ownBlock = vv.ownBlock ∨ vv'.ownBlock = some w.heap.size) :
    ROb (w'.setCell ⟨ob, 1, none⟩ vv') B cv mv N ov od av ats uv ps ob c vv' (xs ++ [x]) := by
  have hu : Upd vv.ownBlock.toList w w' := (Upd.refl _ w).grown hg (fun k hk => Or.inl (Option.mem_toList.2 hk))
  have hnew : RFree B ov av uv ps w.heap.size := by
    refine ⟨?_, ?_, ?_, ?_, fun p hp => ?_⟩
    · have := lt_of_heap h.st.sh.num; omega
    · intro e; have := (h.st.sh.row.lt _ e).2; omega
    · intro e; have := (h.st.ats.lt _ e).2; omega
    · intro e; have := (h.st.out.lt _ e).2; omega
    · rcases (h.st.vals p hp).2 with h1 | h1
      · exact .inl h1
      · exact .inr (by omega)
  have hbox := hu.heap h.box (fun hm => (h.fv _ (Option.mem_toList.1 hm)).2 rfl)
  have hu2 : Upd [ob] w' (w'.setCell ⟨ob, 1, none⟩ vv') := (Upd.refl _ _).setCell (Or.inl (by simp)) _
  have hst := (h.st.upd hu (fun k hk => (h.fv k (Option.mem_toList.1 hk)).1)).upd hu2 (fun k hk => by simp at hk; subst hk; exact h.fb)
  have hbs := lt_of_heap h.box
  have hfv : ∀ k, vv'.ownBlock = some k → RFree B ov av uv ps k ∧ k ≠ ob := by
    intro k hk
    rcases hat with ho | ho
    · exact h.fv k (ho ▸ hk)
    · rw [ho] at hk
      injection hk with hk
      subst hk
      exact ⟨hnew, by omega⟩
  refine ⟨hst, ?_, ?_, h.fb, hfv⟩
  · have := heap_setCell hbox 1 vv'
    simpa using this
  · have h1 := row_upd hrow hu2 (fun k hk hm => by simp at hm; exact (hfv k hk).2 hm)
    simpa using h1

theorem ROut.fresh {w : World} {B : Nat} {cv mv : Value} {N : Nat} {ov : Value} {od : List Int} {av : Value} {ats : List Int} {uv : Value} {ps : List OP} (h : ROut w B cv mv N ov od av ats uv ps) : RFree B ov av uv ps w.heap.size := by
  refine ⟨?_, ?_, ?_, ?_, fun p hp => ?_⟩
  · have := lt_of_heap h.sh.num; omega
  · intro e; have := (h.sh.row.lt _ e).2; omega
  · intro e; have := (h.ats.lt _ e).2; omega
  · intro e; have := (h.out.lt _ e).2; omega
  · rcases (h.vals p hp).2 with h1 | h1
    · exact .inl h1
    · exact .inr (by omega)

theorem ROb.begin {w : World} {B : Nat} {cv mv : Value} {N : Nat} {ov : Value} {od : List Int} {av : Value} {ats : List Int} {uv : Value} {ps : List OP} (h : ROut w B cv mv N ov od av ats uv ps) (c : Int) :
    ROb (w.alloc (.cells #[.int .i64 c, .slice none 0 0] 106)) B cv mv N ov od av ats uv ps w.heap.size c (.slice none 0 0) [] :=
  ⟨h.upd ((Upd.refl [] w).alloc _) (by simp), heap_alloc_new w _, World.ownsRow_nil _ _ _ _, h.fresh, fun k hk => by simp [Value.ownBlock] at hk⟩

theorem ROb.upd0 {w w' : World} {B : Nat} {cv mv : Value} {N : Nat} {ov : Value} {od : List Int} {av : Value} {ats : List Int} {uv : Value} {ps : List OP} {ob : Nat} {c : Int} {vv : Value} {xs : List Int} (h : ROb w B cv mv N ov od av ats uv ps ob c vv xs) (hu : Upd [] w w') :
    ROb w' B cv mv N ov od av ats uv ps ob c vv xs :=
  ⟨h.st.upd hu (by simp), hu.heap h.box (by simp), row_upd h.row hu (by simp), h.fb, h.fv⟩

theorem ROb.form {w : World} {B : Nat} {cv mv : Value} {N : Nat} {ov : Value} {od : List Int} {av : Value} {ats : List Int} {uv : Value} {ps : List OP} {ob : Nat} {c : Int} {vv : Value} {xs : List Int} (h : ROb w B cv mv N ov od av ats uv ps ob c vv xs) : ∃ q c', vv = .slice q xs.length c' := by
  rcases h.row.2 with ⟨h1, h2⟩ | ⟨g, c, _, h1, _⟩
  · exact ⟨none, 0, by rw [h1, h2]⟩
  · exact ⟨_, c, h1⟩

/-- The finished object. -/
theorem ROb.op {w : World} {B : Nat} {cv mv : Value} {N : Nat} {ov : Value} {od : List Int} {av : Value} {ats : List Int} {uv : Value} {ps : List OP} {ob : Nat} {c : Int} {vv : Value} {xs : List Int} (h : ROb w B cv mv N ov od av ats uv ps ob c vv xs) :
    ∃ b, IntsV w vv b xs ∧ (xs = [] ∨ B + 2 ≤ b ∧ b < w.heap.size ∧ ov.ownBlock ≠ some b ∧ uv.ownBlock ≠ some b) := by
  obtain ⟨b, h1, h2⟩ := IntsV.of_row h.row
  refine ⟨b, h1, ?_⟩
  rcases h2 with h2 | h2
  · exact .inl h2
  · have h3 := (h.fv b h2).1
    exact .inr ⟨h3.1, (h.row.lt b h2).2, h3.2.1, h3.2.2.2.1⟩

end Go.Proofs.YtneeljhjfmcdoaaDoor

/-! The document's Shape: the walk. -/
namespace Go.Proofs.YtneeljhjfmcdoaaDoor
open Go.RowKit

theorem make_full (w : World) (m : Nat) (h : m ≤ 1000000) : (Instr.makeSlice 22 (.int .i64 (m : Int)) (.int .i64 (m : Int))).run Tryd.prog w = .ok (.slice (some ⟨w.heap.size, 0, none⟩) m m) (w.alloc (.cells (icells (List.replicate m 0)) 3)) := by
  obtain ⟨i0, hi, hz0, hz1, hz2⟩ := info_parts Tryd.infoInt
  have hmk := run_make (P := Tryd.prog) w 22 3 i0 (.int .i64 0) Tryd.underlying22 hi hz0 .i64 .i64 (m : Int) (m : Int) (by omega) (by omega) (by rw [hz2]; omega) (by omega)
  rw [hz1, Nat.mul_one] at hmk
  simpa [madeCells_zero] using hmk

theorem groots_take (G : Gr) (rs : List Int) (k : Nat) (h : k < rs.length) : G.roots (rs.take (k + 1)) = G.rootStep (G.roots (rs.take k)) (rs.getD k 0) := by
  have : rs.take (k + 1) = rs.take k ++ [rs.getD k 0] := by
    rw [List.take_add_one, List.getElem?_eq_getElem h, List.getD_eq_getElem?_getD, List.getElem?_eq_getElem h]; rfl
  rw [this]
  simp [Gr.roots]

theorem groots_len (G : Gr) (rs : List Int) : (G.roots rs).1.length = rs.length := by
  have : ∀ (rs : List Int) (s : List Int × List Int), (rs.foldl G.rootStep s).1.length = s.1.length + rs.length := by
    intro rs
    induction rs with
    | nil => intro s; simp
    | cons a t ih => intro s; rw [List.foldl_cons, ih]; simp [Gr.rootStep]; omega
  have h := this rs ([], [])
  unfold Gr.roots
  rw [h]
  simp

theorem gvals_len (G : Gr) (r : Int) (od : List Int) (n : Nat) : (G.vals r od n).1.length = n := by
  induction n with
  | zero => rfl
  | succ n ih =>
    rw [Gr.vals_succ, Gr.valStep]
    split <;> simp [ih]
theorem gmeetO_mono (G : Gr) (od : List Int) (r : Int) : od.length ≤ (G.meetO od r).length := by
  unfold Gr.meetO; split <;> simp
theorem gvals_mono (G : Gr) (r : Int) (od : List Int) (n : Nat) : od.length ≤ (G.vals r od n).2.length := by
  induction n with
  | zero => exact Nat.le_refl _
  | succ n ih =>
    rw [Gr.vals_succ, Gr.valStep]
    split
    · exact Nat.le_trans ih (gmeetO_mono _ _ _)
    · exact ih

/-- From the memory in the midst to what met works on, with a row of numbers of its own. -/
theorem RShp.metSt {w : World} {B : Nat} {cv mv : Value} {N : Nat} {ov av : Value} {od ats : List Int} (h : RShp w B cv mv N ov od) (ha : OwnI w (B + 2) 3 av ats) : MetSt w (B + 2) (B + 1) N ov av od ats :=
  ⟨h.num, h.row, ha, by omega, lt_of_heap h.num⟩

theorem RShp.ofMet {w w' : World} {B : Nat} {cv mv : Value} {N : Nat} {ov av ov' av' : Value} {od ats' : List Int} {r : Int} (h : RShp w B cv mv N ov od) (hm : MetSt w' (B + 2) (B + 1) N ov' av' (mO N od r) ats') (hu : Upd ([B + 1] ++ ov.ownBlock.toList ++ av.ownBlock.toList) w w') (hav : ∀ k, av.ownBlock = some k → B + 2 ≤ k) : RShp w' B cv mv N ov' (mO N od r) := by
  refine ⟨hu.heap h.box (fun hm => ?_), hm.num, hm.ord, mO_nd h.nd, mO_obj h.obj⟩
  simp only [List.mem_append, List.mem_cons, List.not_mem_nil, or_false, Option.mem_toList] at hm
  rcases hm with (h1 | h1) | h1
  · omega
  · have := (h.row.lt B h1).1; omega
  · have := hav B h1; omega

/-- One value more, and what is known ahead of its store. -/
theorem ROb.pushed {w w' : World} {B : Nat} {cv mv : Value} {N : Nat} {ov : Value} {od : List Int} {av : Value} {ats : List Int} {uv : Value} {ps : List OP} {ob : Nat} {c : Int} {vv vv' : Value} {xs : List Int} (h : ROb w B cv mv N ov od av ats uv ps ob c vv xs)
    (x : Int) (hrow : w'.ownsRow (B + 2) 2 1 vv' (xs.length + 1) (xs.map (Value.int .i64) ++ [.int .i64 x])) (hg : w.grownBy w' vv.ownBlock) (hat : vv'.ownBlock = vv.ownBlock ∨ vv'.ownBlock = some w.heap.size) :
    (∃ g c', vv' = .slice (some ⟨g, 0, none⟩) (xs.length + 1) c') ∧ w'.cell? ⟨ob, 1, none⟩ = some vv ∧ w'.frozen? ⟨ob, 1, none⟩ = false ∧ ROb (w'.setCell ⟨ob, 1, none⟩ vv') B cv mv N ov od av ats uv ps ob c vv' (xs ++ [x]) ∧
      (∀ k, k < w.heap.size → vv.ownBlock ≠ some k → k ≠ ob → (w'.setCell ⟨ob, 1, none⟩ vv').heap[k]? = w.heap[k]? ∧ vv'.ownBlock ≠ some k) ∧ (∀ w0 : World, Upd [] w0 w → w0.heap.size ≤ B → Upd [] w0 (w'.setCell ⟨ob, 1, none⟩ vv')) := by
  have hu : Upd vv.ownBlock.toList w w' := (Upd.refl _ w).grown hg (fun k hk => Or.inl (Option.mem_toList.2 hk))
  have hbox := hu.heap h.box (fun hm => (h.fv _ (Option.mem_toList.1 hm)).2 rfl)
  refine ⟨?_, by rw [cell_of hbox]; rfl, froz_of hbox 1, h.push x hrow hg hat, fun k hk hv hko => ⟨?_, ?_⟩, fun w0 h0 hB => ?_⟩
  · rcases hrow.2 with ⟨_, hz⟩ | ⟨g, c', _, hv, _⟩
    · omega
    · exact ⟨g, c', hv⟩
  · rw [Below.heap_setCell _ _ _ _ (fun e => hko e)]
    exact hu.block k hk (fun hm => hv (Option.mem_toList.1 hm))
  · intro e
    rcases hat with h1 | h1
    · exact hv (h1 ▸ e)
    · rw [h1] at e; injection e with e; omega
  · have hf := h.fb.1
    exact (h0.trans' hu (fun i hi hlt => by
      have := (h.fv i (Option.mem_toList.1 hi)).1.1
      omega)).setCell (Or.inr (by show w0.heap.size ≤ ob; omega)) _

set_option maxRecDepth 100000 in
set_option maxHeartbeats 4000000 in
theorem rshape_any (cs : List ByteArray) (cv mv va vr : Value) (cb co rb : Nat) (os : List (Int × List Int)) (rs : List Int) (w : World) (hc : ClsAt w cv cb co cs) (ha : ObjsV w va os) (hr : IntsV w vr rb rs)
    (hn : os.length ≤ 10000) (hrn : rs.length ≤ 10000) (_hcn : cs.length ≤ 1000) (hos : ∀ o ∈ os, o.2.length ≤ 10000 ∧ (0 ≤ o.1 → o.1 < cs.length ∧ o.2.length = (cs.getD o.1.toNat ByteArray.empty).size)) :
    Calls Tryd.prog 64 #[.agg #[cv, mv], va, vr] w fun e w' => ∃ uv av ps ov od, e = .returned (.tuple #[uv, av]) ∧ ROut w' w.heap.size cv mv os.length ov od av (((objGr cs os).shapeN (os.length + 1) rs).2) uv ps ∧ ps.map OP.o = ((objGr cs os).shapeN (os.length + 1) rs).1 ∧ Upd [] w w' := by
  obtain ⟨pa, ca, rfl⟩ := ha.shape
  obtain ⟨pr, cr, rfl⟩ := hr.form
  obtain ⟨pc, cc, rfl⟩ := hc.shape
  have HOS := Lib.hid hos
  have HA := Lib.hid ha
  have HRR := Lib.hid hr
  have HC := Lib.hid hc
  obtain ⟨i1, hi, hz0, hz1, hz2⟩ := info_parts Tryd.infoLong
  have JI := Lib.hid hi
  have JZ0 := Lib.hid hz0
  have JZ1 := Lib.hid hz1
  have JZ2 := Lib.hid hz2
  clear hi hz0 hz1 hz2
  obtain ⟨i2, hi, hz0, hz1, hz2⟩ := info_parts Tryd.infoObj
  have KI := Lib.hid hi
  have KZ0 := Lib.hid hz0
  have KZ1 := Lib.hid hz1
  have KZ2 := Lib.hid hz2
  clear hi hz0 hz1 hz2 hos ha hr hc
  have hmk := fun w => make_full w os.length (by omega)
  obtain ⟨G, hG⟩ : ∃ G, objGr cs os = G := ⟨_, rfl⟩
  have HG := Lib.hid hG
  rw [hG]
  clear hG
  go_enter Tryd.func64, Tryd.ntmps64
  go_wp2_with fail
  have hst0 : RShp ((w.alloc (.cells #[.slice pc cs.length cc, mv] 28)).alloc (.cells (icells (List.replicate os.length 0)) 3)) w.heap.size (.slice pc cs.length cc) mv os.length (.slice none 0 0) [] := by
    refine ⟨((Upd.refl [] _).alloc _).heap (heap_alloc_new w _) (by simp), ?_, World.ownsRow_nil _ _ _ _, by simp, by simp⟩
    have := heap_alloc_new (w.alloc (.cells #[.slice pc cs.length cc, mv] 28)) (.cells (icells (List.replicate os.length 0)) 3)
    rw [World.size_alloc] at this
    rw [numArr_nil]; exact this
  have hu0 : Upd [] w ((w.alloc (.cells #[.slice pc cs.length cc, mv] 28)).alloc (.cells (icells (List.replicate os.length 0)) 3)) := ((Upd.refl _ _).alloc _).alloc _
  go_loopw [9, 10, 11] (fun o a iv wr => ∃ k : Nat, k ≤ rs.length ∧ iv = .int .i64 k ∧ RShp wr w.heap.size (.slice pc cs.length cc) mv os.length o (G.roots (rs.take k)).2 ∧ OwnI wr (w.heap.size + 2) 3 a (G.roots (rs.take k)).1 ∧ Upd [] w wr) (fun _ _ iv _ => rs.length - (intOf iv).toNat)
  case atStart => exact ⟨0, by omega, rfl, hst0, OwnI.nil _ _ _, hu0⟩
  case round =>
    clear hst0 hu0
    obtain ⟨k, hk, rfl, hsh, hat, hU⟩ := hrel
    obtain ⟨wo, rfl⟩ : ∃ wo : World, wo = wr := ⟨_, rfl⟩
    by_cases hlt : k < rs.length
    · obtain ⟨rfl, hx0⟩ := sints_nth _ _ _ _ _ HRR.out k hlt
      have hx := hU.cell hx0 (by simp)
      have HT := Lib.hid (groots_take G rs k hlt)
      have hl2 : (G.roots (rs.take k)).1.length ≤ k := by rw [groots_len]; simp; omega
      have hl1 := hsh.few
      generalize rs.getD k 0 = x at hx hx0 HT
      clear hx0
      generalize G.roots (rs.take k) = s at *
      obtain ⟨ats, od⟩ := s
      simp only at hsh hat hl1 hl2
      have HMT := Lib.hid (met_any (w.heap.size + 2) (w.heap.size + 1) os.length u9 u10 od ats pa ca x wo (hsh.metSt hat) (by omega) (by omega) (by omega))
      have HSH := Lib.hid hsh
      have HAT := Lib.hid hat
      clear hsh hat
      go_wp2_with fail
      refine HMT.out.mono ?_
      rintro e w1 ⟨ov1, av1, rfl, hm1, hu1, _, _⟩
      have hsh1 := HSH.out.ofMet hm1 hu1 (fun q hq => (HAT.out.lt q hq).1)
      have hat1 := hm1.out
      have hU1 : Upd [] w w1 := hU.trans' hu1 (fun i hi hlt2 => by
        simp only [List.mem_append, List.mem_cons, List.not_mem_nil, or_false, Option.mem_toList] at hi
        rcases hi with (h1 | h1) | h1
        · omega
        · have := (HSH.out.row.lt i h1).1; omega
        · have := (HAT.out.lt i h1).1; omega)
      clear hm1 hu1
      go_wp2_with fail
      go_roundw
      case rel =>
        refine ⟨k + 1, by omega, by go_num, ?_, ?_, hU1⟩
        · rw [HT.out, Gr.rootStep]
          have := hsh1
          rw [mO_gr cs os, HG.out] at this
          exact this
        · rw [HT.out, Gr.rootStep]
          have := hat1
          rw [mV_gr cs os, HG.out] at this
          exact this
      case measure => simp [intOf]; omega
    · obtain rfl : k = rs.length := by omega
      rw [List.take_length] at hsh hat
      have HAT := Lib.hid hat
      have HSH := Lib.hid hsh
      obtain ⟨op0, oc0, rfl⟩ := hsh.form
      clear hat hsh
      go_wp2_with fail
      go_loopw [9, 12, 13] (fun o u iv wr => ∃ (k : Nat) (od : List Int) (ps : List OP), iv = .int .i64 k ∧ ROut wr w.heap.size (.slice pc cs.length cc) mv os.length o od u10 (G.roots rs).1 u ps ∧ Upd [] w wr ∧ Hid (G.outN k ([], (G.roots rs).2) = (ps.map OP.o, od) ∧ ps.length = k ∧ k ≤ od.length)) (fun _ _ iv _ => os.length + 1 - (intOf iv).toNat)
      case atStart =>
        exact ⟨0, (G.roots rs).2, [], rfl, ⟨HSH.out, HAT.out, World.ownsRow_nil _ _ _ _, by simp, fun k hk => own_ne HAT.out HSH.out.row (by decide) k hk, (fun k hk => by simp [Value.ownBlock] at hk : Apart (.slice none 0 0) _), (fun k hk => by simp [Value.ownBlock] at hk : Apart (.slice none 0 0) _)⟩, hU, ⟨rfl, rfl, Nat.zero_le _⟩⟩
      case round =>
        clear hU HAT HSH
        obtain ⟨k, od, ps, rfl, hst, hU, HK⟩ := hrel
        obtain ⟨wo2, rfl⟩ : ∃ wo2 : World, wo2 = wr := ⟨_, rfl⟩
        have hfew := hst.sh.few
        by_cases hlt : k < od.length
        · have hobj := hst.sh.obj (od.getD k 0) (by rw [List.getD_eq_getElem?_getD, List.getElem?_eq_getElem hlt]; exact List.getElem_mem hlt)
          obtain ⟨og, oc, rfl, hordc⟩ : ∃ g c, u9 = .slice (some ⟨g, 0, none⟩) od.length c ∧ wo2.cell? ⟨g, k, none⟩ = some (.int .i64 (od.getD k 0)) := by
            have ho : OwnI wo2 (w.heap.size + 2) 2 u9 od := hst.sh.row
            rcases ho.form with ⟨_, h2⟩ | ⟨g, c, h1, _, _, _, h5⟩
            · rw [h2] at hlt; simp at hlt
            · exact ⟨g, c, h1, h5 k hlt⟩
          have HST : Hid (G.outStep (ps.map OP.o, od) = (ps.map OP.o ++ [(G.cls (od.getD k 0), (G.vals (od.getD k 0) od (G.num (od.getD k 0)).toNat).1)], (G.vals (od.getD k 0) od (G.num (od.getD k 0)).toNat).2)) := by
            have e1 : (ps.map OP.o).length = k := by rw [List.length_map]; exact HK.out.2.1
            show G.outStep _ = _
            unfold Gr.outStep
            simp only [e1]
            rw [if_pos hlt]
          obtain ⟨q, hq⟩ := Int.eq_ofNat_of_zero_le hobj.1
          rw [hq] at hobj hordc HST
          have hqN : q < os.length := by omega
          have HQ := Lib.hid hq
          clear hq hobj
          obtain ⟨ub, qv, qc, qb, rfl, hc0', hc1', hqi⟩ := HA.out.nth q hqN
          have hc0 := hU.cell hc0' (by simp)
          have hc1 := hU.cell hc1' (by simp)
          clear hc0' hc1'
          have HB : Hid ((os.getD q (0, [])).2.length ≤ 10000 ∧ (0 ≤ (os.getD q (0, [])).1 → (os.getD q (0, [])).1 < cs.length ∧ (os.getD q (0, [])).2.length = (cs.getD (os.getD q (0, [])).1.toNat ByteArray.empty).size)) := HOS.out _ (by rw [List.getD_eq_getElem?_getD, List.getElem?_eq_getElem hqN]; exact List.getElem_mem hqN)
          have HCL : Hid (G.cls (q : Int) = (os.getD q (0, [])).1 ∧ G.num (q : Int) = ((os.getD q (0, [])).2.length : Int) ∧ (∀ j : Nat, G.get (q : Int) j = (os.getD q (0, [])).2.getD j 0) ∧ ∀ j : Nat, j < (os.getD q (0, [])).2.length → G.refB (q : Int) j = letR cs (os.getD q (0, [])).1 j) := by
            rw [← HG.out]
            refine ⟨rfl, rfl, fun j => rfl, fun j hj => ?_⟩
            show (decide ((0 : Int) ≤ j ∧ (j : Int) < ((os.getD q (0, [])).2.length : Int)) && letR cs (os.getD q (0, [])).1 j) = _
            rw [decide_eq_true (by omega), Bool.true_and]
          rw [HCL.out.1, HCL.out.2.1, Int.toNat_natCast] at HST
          generalize (os.getD q (0, [])).1 = c at hc0 HB HCL HST
          generalize (os.getD q (0, [])).2 = xs at hc1 hqi HB HCL HST
          have hxl := HB.out.1
          have hst1 := hst.upd ((Upd.refl [] wo2).alloc (.cells #[.int .i64 c, .slice qv xs.length qc] 106)) (by simp)
          have hob := ROb.begin hst1 c
          rw [World.size_alloc] at hob
          have hbox0 := ((Upd.refl [] (wo2.alloc (.cells #[.int .i64 c, .slice qv xs.length qc] 106))).alloc (.cells #[.int .i64 c, .slice none 0 0] 106)).heap (heap_alloc_new wo2 _) (by simp)
          have hfr := hst.fresh
          have HQI := Lib.hid hqi
          have HOB := Lib.hid hob
          have HBX := Lib.hid hbox0
          have HFR := Lib.hid hfr
          have hs2 := hU.size
          clear hst hst1 hob hbox0 hfr hqi
          go_wp2_with fail
          go_loopw [9, 16] (fun o iv wr => ∃ (j : Nat) (od1 : List Int) (vv : Value) (ys : List Int), j ≤ xs.length ∧ iv = .int .i64 j ∧ ROb wr w.heap.size (.slice pc cs.length cc) mv os.length o od1 u10 (G.roots rs).1 u12 ps (wo2.heap.size + 1) c vv ys ∧
            wr.heap[wo2.heap.size]? = some (.cells #[.int .i64 c, .slice qv xs.length qc] 106) ∧ Upd [] w wr ∧ Hid (RFree w.heap.size o u10 u12 ps wo2.heap.size ∧ vv.ownBlock ≠ some wo2.heap.size) ∧ Hid (G.vals (q : Int) od j = (ys, od1) ∧ ys.length = j)) (fun _ iv _ => xs.length - (intOf iv).toNat)
          case atStart => exact ⟨0, od, .slice none 0 0, [], by omega, rfl, HOB.out, HBX.out, (hU.alloc _).alloc _, ⟨HFR.out, by simp [Value.ownBlock]⟩, ⟨rfl, rfl⟩⟩
          case round =>
            clear hU HOB HBX HFR hc0 hc1 hordc
            obtain ⟨j, od1, vv, ys, hj, rfl, hob, hbx, hU, HFR, HV⟩ := hrel
            obtain ⟨w3, rfl⟩ : ∃ w3 : World, w3 = wr := ⟨_, rfl⟩
            have hp0 := cell_of hob.st.sh.box 0
            have hb0 := cell_of hbx 0
            have hb1 := cell_of hbx 1
            by_cases hjl : j < xs.length
            · obtain ⟨rfl, hxj0⟩ := sints_nth _ _ _ _ _ HQI.out j hjl
              have hxj := hU.cell hxj0 (by simp)
              have HRJ := Lib.hid (HCL.out.2.2.2 j hjl)
              have HGJ := Lib.hid (HCL.out.2.2.1 j)
              have HVS := Lib.hid (Gr.vals_succ G (q : Int) od j)
              generalize xs.getD j 0 = x at hxj hxj0 HGJ
              clear hxj0
              have HOB := Lib.hid hob
              clear hob
              go_upto_region 17 with fail
              go_cut [17] (fun s wx => s = .bool (letR cs c j) ∧ w3 = wx)
              case first =>
                by_cases hc2 : c = -2
                · have HL : Hid (letR cs c j = true) := by show _ = _; unfold letR; rw [decide_eq_true hc2]; rfl
                  have e2 : (c == -2) = true := by rw [beq_iff_eq]; exact hc2
                  clear hc2
                  go_wp2_with fail
                  go_meet
                  exact ⟨by rw [HL.out], rfl⟩
                · have e2 : (c == -2) = false := by rw [beq_eq_false_iff_ne]; exact hc2
                  by_cases hc0 : 0 ≤ c
                  · obtain ⟨k0, hk0⟩ := Int.eq_ofNat_of_zero_le hc0
                    have hb2 := HB.out.2 hc0
                    rw [hk0, Int.toNat_natCast] at hb2
                    have hk1 : k0 < cs.length := by omega
                    obtain ⟨hcv, hcc⟩ := HC.out
                    have hcell := hU.cell (hcc k0 hk1) (by simp)
                    obtain rfl : pc = some ⟨cb, co, none⟩ := by
                      rcases hcv with ⟨_, h2⟩ | ⟨x, cap, h1, h2 | rfl⟩
                      · rw [h2] at hk1; simp at hk1
                      · rw [h2] at hk1; simp at hk1
                      · injection h1
                    have HL : Hid (letR cs c j = decide ((cs.getD k0 ByteArray.empty).get! j = 82)) := by
                      show _ = _
                      unfold letR
                      rw [decide_eq_false hc2, decide_eq_true hc0, hk0, Int.toNat_natCast, Int.toNat_natCast, Bool.false_or, Bool.true_and]
                    have hsz := hb2.2
                    clear hcv hcc hb2
                    subst hk0
                    generalize cs.getD k0 ByteArray.empty = fs at *
                    have hjs : j < fs.size := by omega
                    have hby := byte_eq fs j 82 hjs
                    have hk0' : (k0 : Int) < (cs.length : Int) := by omega
                    cases hbb : decide (fs.get! j = 82) with
                    | true =>
                      rw [hbb] at hby
                      have hby2 : (((fs[j]'hjs).toNat : Int) == 82) = true := hby
                      have HBB := Lib.hid hbb
                      clear hby hbb hc2 hsz
                      go_wp2_with fail
                      go_meet
                      exact ⟨by rw [HL.out, HBB.out], rfl⟩
                    | false =>
                      rw [hbb] at hby
                      have hby2 : (((fs[j]'hjs).toNat : Int) == 82) = false := hby
                      have HBB := Lib.hid hbb
                      clear hby hbb hc2 hsz
                      go_wp2_with fail
                      go_meet
                      exact ⟨by rw [HL.out, HBB.out], rfl⟩
                  · have HL : Hid (letR cs c j = false) := by show _ = _; unfold letR; rw [decide_eq_false hc2, decide_eq_false hc0]; rfl
                    have e3 : decide (0 ≤ c) = false := by simpa using hc0
                    clear hc2
                    go_wp2_with fail
                    go_meet
                    exact ⟨by rw [HL.out], rfl⟩
              case rest =>
                obtain ⟨rfl, rfl⟩ := hcut
                cases hlet : letR cs c j with
                | false =>
                  rw [hlet] at HRJ
                  clear hlet
                  obtain ⟨vq, vc, rfl⟩ := HOB.out.form
                  have hbx1 : w3.cell? ⟨wo2.heap.size + 1, 1, none⟩ = some (.slice vq ys.length vc) := by rw [cell_of HOB.out.box]; rfl
                  have hbx2 := fun o => ((Upd.refl [] w3).alloc o).cell hbx1 (by simp)
                  have hoA := HOB.out.upd0 (((Upd.refl [] w3).alloc (.cells #[.int .i64 x] 2)).drew)
                  have HOA := Lib.hid hoA
                  have hsB := lt_of_heap HOB.out.st.sh.num
                  have hyl := HV.out.2
                  have hyl1 : ys.length ≤ j := by omega
                  clear hyl hoA
                  have hjl2 : (j : Int) < (xs.length : Int) := by omega
                  go_wp2_with fail
                  have HVO := Lib.hid (HFR.out.2)
                  have HU1 := Lib.hid ((hU.alloc (.cells #[.int .i64 x] 2)).drew)
                  go_region_law (refine step_append_own_at rfl (.tmp 86) (.tmp 92) 70 rfl (w.heap.size + 2) 2 i1 (.int .i64 0) 1 8 Tryd.underlying70 JI.out JZ0.out JZ1.out JZ2.out rfl (by decide) _ _ _ rfl HOA.out.row ⟨w3.heap.size, 0, none⟩ 1 1 [.int .i64 x] rfl rfl (cell_one_new _ _ _) (by simp [Value.oneCell']) (by unfold maxLen; omega) (by omega) (by simp; omega) ?_; intro v' w6 hown' hgrow hat; obtain ⟨⟨g', c', rfl⟩, hb6, hf6, hob6, hkeep, hup⟩ := HOA.out.pushed x hown' hgrow hat; clear hown' hgrow hat)
                  all_goals
                    have hbl := lt_of_heap hbx
                    have hk7 := hkeep wo2.heap.size (by simp; omega) HVO.out (by omega)
                    have HOB7 := Lib.hid hob6
                    have HK7 := Lib.hid hk7
                    have HU7 := Lib.hid (hup w HU1.out (Nat.le_refl _))
                    have HBX := Lib.hid (hk7.1.trans ((((Upd.refl [] w3).alloc (.cells #[.int .i64 x] 2)).drew).heap hbx (by simp)))
                    clear hob6 hkeep hup hk7 hb6 hf6 hbx1 hbx2 hbl
                    go_wp2_with fail
                    go_roundw
                    case rel =>
                      refine ⟨j + 1, od1, _, ys ++ [x], by omega, by go_num, HOB7.out, HBX.out, HU7.out, ⟨HFR.out.1, HK7.out.2⟩, ⟨?_, by simp [HV.out.2]⟩⟩
                      rw [HVS.out, Gr.valStep, HV.out.1, HRJ.out, HGJ.out]
                      rfl
                    case measure => simp [intOf]; omega
                | true =>
                  rw [hlet] at HRJ
                  clear hlet
                  obtain ⟨op1, oc1, rfl⟩ := HOB.out.st.sh.form
                  have hfw := HOB.out.st.sh.few
                  have HMT := Lib.hid (met_any (w.heap.size + 2) (w.heap.size + 1) os.length _ (.slice none 0 0) od1 [] (some ⟨ub, 0, none⟩) ca x w3 (HOB.out.st.sh.metSt (OwnI.nil _ _ _)) (by omega) (by omega) (by simp))
                  go_wp2_with fail
                  refine HMT.out.mono ?_
                  rintro e w4 ⟨ov1, av1, rfl, hm4, hu4, hk4, _⟩
                  have hu4' : Upd ([w.heap.size + 1] ++ (Value.ownBlock (.slice op1 od1.length oc1)).toList) w3 w4 := hu4.mono (fun i hi _ => by simpa [Value.ownBlock] using hi)
                  have hsh4 := HOB.out.st.sh.ofMet hm4 hu4 (fun q hq => by simp [Value.ownBlock] at hq)
                  have hmet : RMet w.heap.size (.slice op1 od1.length oc1) ov1 w3 w4 := ⟨hu4', hk4⟩
                  have hob4 := HOB.out.met hsh4 hmet
                  have hbx4 := hu4'.heap hbx HFR.out.1.notin
                  have hfr4 := HFR.out.1.met (lt_of_heap hbx) hmet
                  have hU4 : Upd [] w w4 := hU.trans' hu4' (fun i hi hlt2 => by
                    simp only [List.mem_append, List.mem_cons, List.not_mem_nil, or_false, Option.mem_toList] at hi
                    rcases hi with h1 | h1
                    · omega
                    · have := (HOB.out.st.sh.row.lt i h1).1; omega)
                  obtain ⟨ag, ac, rfl, hac⟩ : ∃ g c, av1 = .slice (some ⟨g, 0, none⟩) 1 c ∧ w4.cell? ⟨g, 0, none⟩ = some (.int .i64 (mV os.length od1 x)) := by
                    rcases hm4.out.form with ⟨_, h2⟩ | ⟨g, c, h1, _, _, _, h5⟩
                    · simp at h2
                    · exact ⟨g, c, by simpa using h1, by simpa using h5 0 (by simp)⟩
                  obtain ⟨vq, vc, rfl⟩ := hob4.form
                  have HY := Lib.hid (show mV os.length od1 x = G.meetV od1 x by rw [mV_gr cs os, HG.out])
                  have HYO := Lib.hid (show mO os.length od1 x = G.meetO od1 x by rw [mO_gr cs os, HG.out])
                  generalize mV os.length od1 x = y at hac HY
                  have hbx1 : w4.cell? ⟨wo2.heap.size + 1, 1, none⟩ = some (.slice vq ys.length vc) := by rw [cell_of hob4.box]; rfl
                  have hbx2 := fun o => ((Upd.refl [] w4).alloc o).cell hbx1 (by simp)
                  have hoA := hob4.upd0 (((Upd.refl [] w4).alloc (.cells #[.int .i64 y] 2)).drew)
                  have HOA := Lib.hid hoA
                  have hsB := lt_of_heap hob4.st.sh.num
                  have hyl := HV.out.2
                  have hyl1 : ys.length ≤ j := by omega
                  have HVO := Lib.hid (HFR.out.2)
                  have HU1 := Lib.hid ((hU4.alloc (.cells #[.int .i64 y] 2)).drew)
                  have HFR4 := Lib.hid hfr4
                  have hbl := lt_of_heap hbx4
                  have HBX4 := Lib.hid hbx4
                  obtain ⟨op2, oc2, hov1⟩ := hsh4.form
                  have HOV := Lib.hid hov1
                  clear hyl hoA hob4 hm4 hu4 hk4 hu4' hsh4 hmet hfr4 hU4 hbx4 hp0 hb0 hb1 hxj hov1
                  go_wp2_with fail
                  go_region_law (refine step_append_own_at rfl (.tmp 108) (.tmp 112) 70 rfl (w.heap.size + 2) 2 i1 (.int .i64 0) 1 8 Tryd.underlying70 JI.out JZ0.out JZ1.out JZ2.out rfl (by decide) _ _ _ rfl HOA.out.row ⟨w4.heap.size, 0, none⟩ 1 1 [.int .i64 y] rfl rfl (cell_one_new _ _ _) (by simp [Value.oneCell']) (by unfold maxLen; omega) (by omega) (by simp; omega) ?_; intro v' w6 hown' hgrow hat; obtain ⟨⟨g', c', rfl⟩, hb6, hf6, hob6, hkeep, hup⟩ := HOA.out.pushed y hown' hgrow hat; clear hown' hgrow hat)
                  all_goals
                    have hk7 := hkeep wo2.heap.size (by simp; omega) HVO.out (by omega)
                    have HOB7 := Lib.hid hob6
                    have HK7 := Lib.hid hk7
                    have HU7 := Lib.hid (hup w HU1.out (Nat.le_refl _))
                    have HBX := Lib.hid (hk7.1.trans ((((Upd.refl [] w4).alloc (.cells #[.int .i64 y] 2)).drew).heap HBX4.out (by simp)))
                    clear hob6 hkeep hup hk7 hb6 hf6 hbx1 hbx2 hbl hac
                    go_wp2_with fail
                    go_roundw
                    case rel =>
                      refine ⟨j + 1, _, _, ys ++ [y], by omega, by go_num, HOB7.out, HBX.out, HU7.out, ⟨HFR4.out, HK7.out.2⟩, ⟨?_, by simp [HV.out.2]⟩⟩
                      rw [HVS.out, Gr.valStep, HV.out.1, HRJ.out, HGJ.out, HYO.out, HY.out]
                      rfl
                    case measure => simp [intOf]; omega
            · obtain rfl : j = xs.length := by omega
              obtain ⟨vq, vc, rfl⟩ := hob.form
              have hbq := cell_of hob.box 0
              have hbq1 := cell_of hob.box 1
              have HHO := Lib.hid hob
              have hsB := lt_of_heap hob.st.sh.num
              have hfw := hob.st.sh.few
              obtain ⟨op1, oc1, hov⟩ := hob.st.sh.form
              subst hov
              clear hob
              go_wp2_with (at_builtin; refine stop_here ?_)
              refine Hid.mk ?_
              have hoA := HHO.out.upd0 ((Upd.refl [] w3).alloc (.cells #[.int .i64 c, .slice vq ys.length vc] 106))
              have hcn := cell_of (heap_alloc_new w3 (.cells #[.int .i64 c, .slice vq ys.length vc] 106))
              refine (wpList_append_own_at _ rfl _ _ 54 rfl (w.heap.size + 2) 106 i2 (.agg #[.int .i64 0, .slice none 0 0]) 2 32 Tryd.underlying54 KI.out KZ0.out KZ1.out KZ2.out rfl (by decide) _ _ _ rfl hoA.st.out ⟨w3.heap.size, 0, none⟩ 1 1 [.int .i64 c, .slice vq ys.length vc] rfl rfl ?d1 ?d2 ?d3 ?d4 ?d5 ?d6)
              case d1 =>
                intro jj uu hjj
                rw [Addr.add_lit, Nat.zero_add, hcn]
                simpa using hjj
              case d2 => simp [Value.oneCell']
              case d3 => have hpl := HK.out.2.1; unfold maxLen; omega
              case d4 => have hpl := HK.out.2.1; omega
              case d5 => simp; omega
              case d6 =>
                intro v' w6 hown' hgrow _ hat
                obtain ⟨b, hiv, hbb⟩ := hoA.op
                have hpush := hoA.st.push ⟨c, ys, .slice vq ys.length vc, b⟩ hiv hbb hown' hgrow hat
                have hU6 : Upd [] w w6 := (hU.alloc _).grown hgrow (fun q' hq => Or.inr (by have := (HHO.out.st.out.lt q' hq).1; omega))
                clear hown' hgrow hat hiv hbb hoA hcn
                have HPU := Lib.hid hpush
                clear hpush
                go_wp2_with fail
                go_roundw
                case rel =>
                  have hmon := gvals_mono G (q : Int) od xs.length
                  rw [HV.out.1] at hmon
                  have hpl := HK.out.2.1
                  refine ⟨k + 1, od1, _, by go_num, HPU.out, hU6, ⟨?_, by simp [hpl], by simp only at hmon; omega⟩⟩
                  show G.outStep (G.outN k _) = _
                  rw [HK.out.1, HST.out, HV.out.1]
                  simp [OP.o]
                case measure => simp [intOf]; omega
        · obtain ⟨op1, oc1, rfl⟩ := hst.sh.form
          go_wp2_with fail
          go_ret2
          refine ⟨_, _, ps, .slice op1 od.length oc1, od, rfl, ?_, ?_, hU⟩
          · exact hst
          · obtain ⟨h1, h2, h3⟩ := HK.out
            have h4 : G.outN (os.length + 1) ([], (G.roots rs).2) = G.outN k ([], (G.roots rs).2) := Gr.outN_stay G _ k _ (by rw [h1]; simp; omega) (by omega)
            show _ = (G.outN (os.length + 1) ([], (G.roots rs).2)).1
            rw [h4, h1]

end Go.Proofs.YtneeljhjfmcdoaaDoor
