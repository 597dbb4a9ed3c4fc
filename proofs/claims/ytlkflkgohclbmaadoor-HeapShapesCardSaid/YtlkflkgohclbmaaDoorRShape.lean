/- The document's Shape: its memory. -/
import Derived.Test.YtlkflkgohclbmaaDoorMet
namespace Go.Proofs.YtlkflkgohclbmaaDoor
open Go.RowKit

/-- The document's Shape's own memory, from block B on: the program's box, the numbers; the order's row. -/
structure RShp (w : World) (B : Nat) (cv mv : Value) (N : Nat) (ov : Value) (od : List Int) : Prop where
  box : w.heap[B]? = some (.cells #[cv, mv] 32)
  num : w.heap[B + 1]? = some (.cells (icells (numArr od N)) 3)
  row : w.ownsRow (B + 2) 2 1 ov od.length (od.map (Value.int .i64))
  nd : od.Nodup
  obj : ∀ r ∈ od, 0 ≤ r ∧ r < N

theorem RShp.upd {w w' : World} {B : Nat} {cv mv : Value} {N : Nat} {ov : Value} {od : List Int} {T : List Nat} (h : RShp w B cv mv N ov od) (hu : Upd T w w') (hT : ∀ k ∈ T, B + 2 ≤ k ∧ ov.ownBlock ≠ some k) : RShp w' B cv mv N ov od := by
  have hno : ∀ k, k < B + 2 → k ∉ T := fun k hk hm => by have := (hT k hm).1; omega
  exact ⟨hu.heap h.box (hno _ (by omega)), hu.heap h.num (hno _ (by omega)), row_upd h.row hu (fun k hk hm => (hT k hm).2 hk), h.nd, h.obj⟩

theorem RShp.few {w : World} {B : Nat} {cv mv : Value} {N : Nat} {ov : Value} {od : List Int} (h : RShp w B cv mv N ov od) : od.length ≤ N := by
  have := len_le N (od.map (· + 1)) (by
    unfold List.Nodup
    rw [List.pairwise_map]
    exact h.nd.imp (fun hne e => hne (by omega))) (fun r hr => by
    obtain ⟨q, hq, rfl⟩ := List.mem_map.1 hr
    have := h.obj q hq
    omega)
  simpa using this

theorem RShp.form {w : World} {B : Nat} {cv mv : Value} {N : Nat} {ov : Value} {od : List Int} (h : RShp w B cv mv N ov od) : ∃ p c, ov = .slice p od.length c := by
  rcases h.row.2 with ⟨h1, h2⟩ | ⟨g, c, _, h1, _⟩
  · exact ⟨none, 0, by rw [h1, h2]⟩
  · exact ⟨_, c, h1⟩

/-- Which blocks met may have written. -/
def RMet (B : Nat) (ov ov' : Value) (w w' : World) : Prop := Upd ([B + 1] ++ ov.ownBlock.toList) w w' ∧ (ov'.ownBlock = ov.ownBlock ∨ ∃ k, ov'.ownBlock = some k ∧ w.heap.size ≤ k)

theorem mO_nd {N : Nat} {od : List Int} {r : Int} (h : od.Nodup) : (mO N od r).Nodup := by
  unfold mO
  split
  · rename_i hc
    rw [List.nodup_append]
    exact ⟨h, by simp, by intro a ha b hb e; simp at hb; subst hb; subst e; exact hc.2 ha⟩
  · exact h
theorem mO_obj {N : Nat} {od : List Int} {r : Int} (h : ∀ q ∈ od, 0 ≤ q ∧ q < (N : Int)) : ∀ q ∈ mO N od r, 0 ≤ q ∧ q < (N : Int) := by
  unfold mO
  split
  · rename_i hc
    intro q hq
    rcases List.mem_append.1 hq with h1 | h1
    · exact h q h1
    · simp at h1; subst h1; exact hc.1
  · exact h

/-- The memory in the midst of Shape. -/
structure ROut (w : World) (B : Nat) (cv mv : Value) (N : Nat) (ov : Value) (od : List Int) (av : Value) (ats : List Int) (uv : Value) (ps : List OP) : Prop where
  sh : RShp w B cv mv N ov od
  ats : w.ownsRow (B + 2) 3 1 av ats.length (ats.map (Value.int .i64))
  out : w.ownsRow (B + 2) 61 2 uv ps.length (oflat ps)
  vals : ∀ p ∈ ps, IntsV w p.v p.b p.xs ∧ (p.xs = [] ∨ B + 2 ≤ p.b ∧ p.b < w.heap.size ∧ ov.ownBlock ≠ some p.b ∧ uv.ownBlock ≠ some p.b)
  d1 : Apart av ov
  d2 : Apart uv ov
  d3 : Apart uv av

/-- Blocks that are none of it. -/
def RFree (B : Nat) (ov av uv : Value) (ps : List OP) (k : Nat) : Prop :=
  B + 2 ≤ k ∧ ov.ownBlock ≠ some k ∧ av.ownBlock ≠ some k ∧ uv.ownBlock ≠ some k ∧ ∀ p ∈ ps, p.xs = [] ∨ p.b ≠ k

theorem ROut.upd {w w' : World} {B : Nat} {cv mv : Value} {N : Nat} {ov : Value} {od : List Int} {av : Value} {ats : List Int} {uv : Value} {ps : List OP} {T : List Nat} (h : ROut w B cv mv N ov od av ats uv ps) (hu : Upd T w w')
    (hT : ∀ k ∈ T, RFree B ov av uv ps k) : ROut w' B cv mv N ov od av ats uv ps := by
  refine ⟨h.sh.upd hu (fun k hk => ⟨(hT k hk).1, (hT k hk).2.1⟩), row_upd h.ats hu (fun k hk hm => (hT k hm).2.2.1 hk), row_upd h.out hu (fun k hk hm => (hT k hm).2.2.2.1 hk), fun p hp => ?_, h.d1, h.d2, h.d3⟩
  obtain ⟨h1, h2⟩ := h.vals p hp
  refine ⟨h1.upd hu ?_, ?_⟩
  · rcases h2 with h2 | h2
    · exact .inl h2
    · by_cases hx : p.xs = []
      · exact .inl hx
      · refine .inr (fun hm => ?_)
        rcases (hT _ hm).2.2.2.2 p hp with h3 | h3
        · exact hx h3
        · exact h3 rfl
  · rcases h2 with h2 | ⟨h2, h3, h4⟩
    · exact .inl h2
    · exact .inr ⟨h2, Nat.lt_of_lt_of_le h3 hu.size, h4⟩

/-- Behind the closure. -/
theorem ROut.met {w w' : World} {B : Nat} {cv mv : Value} {N : Nat} {ov ov' : Value} {od od' : List Int} {av : Value} {ats : List Int} {uv : Value} {ps : List OP} (h : ROut w B cv mv N ov od av ats uv ps)
    (hs : RShp w' B cv mv N ov' od') (hm : RMet B ov ov' w w') : ROut w' B cv mv N ov' od' av ats uv ps := by
  obtain ⟨hu, ho⟩ := hm
  have hav := h.ats.lt
  have huv := h.out.lt
  have hin : ∀ k, B + 2 ≤ k → ov.ownBlock ≠ some k → k ∉ [B + 1] ++ ov.ownBlock.toList := by
    intro k h1 h2 h3
    simp only [List.mem_append, List.mem_cons, List.not_mem_nil, or_false, Option.mem_toList] at h3
    rcases h3 with h3 | h3
    · omega
    · exact h2 h3
  have hnew : ∀ k, k < w.heap.size → ov.ownBlock ≠ some k → ov'.ownBlock ≠ some k := by
    intro k h1 h2 h3
    rcases ho with ho | ⟨j, hj, hj2⟩
    · exact h2 (ho ▸ h3)
    · rw [hj] at h3; injection h3 with h3; omega
  refine ⟨hs, row_upd h.ats hu (fun k hk => hin k (hav k hk).1 (h.d1 k hk)), row_upd h.out hu (fun k hk => hin k (huv k hk).1 (h.d2 k hk)), fun p hp => ?_, fun k hk => hnew k (hav k hk).2 (h.d1 k hk), fun k hk => hnew k (huv k hk).2 (h.d2 k hk), h.d3⟩
  obtain ⟨h1, h2⟩ := h.vals p hp
  rcases h2 with h2 | ⟨h2, h3, h4, h5⟩
  · exact ⟨h1.upd hu (.inl h2), .inl h2⟩
  · exact ⟨h1.upd hu (.inr (hin _ h2 h4)), .inr ⟨h2, Nat.lt_of_lt_of_le h3 hu.size, hnew _ h3 h4, h5⟩⟩

/-- The output is grown by one object whose values' block is known. -/
theorem ROut.push {w w' : World} {B : Nat} {cv mv : Value} {N : Nat} {ov : Value} {od : List Int} {av : Value} {ats : List Int} {uv uv' : Value} {ps : List OP} (h : ROut w B cv mv N ov od av ats uv ps)
    (q : OP) (hq : IntsV w q.v q.b q.xs) (hqb : q.xs = [] ∨ B + 2 ≤ q.b ∧ q.b < w.heap.size ∧ ov.ownBlock ≠ some q.b ∧ uv.ownBlock ≠ some q.b)
    (hrow : w'.ownsRow (B + 2) 61 2 uv' (ps.length + 1) (oflat ps ++ [Value.int .i64 q.c, q.v])) (hg : w.grownBy w' uv.ownBlock) (hat : uv'.ownBlock = uv.ownBlock ∨ uv'.ownBlock = some w.heap.size) :
    ROut w' B cv mv N ov od av ats uv' (ps ++ [q]) := by
  have hu : Upd uv.ownBlock.toList w w' := (Upd.refl _ w).grown hg (fun k hk => Or.inl (Option.mem_toList.2 hk))
  have huv := h.out.lt
  have hav := h.ats.lt
  have hov := h.sh.row.lt
  have hne : ∀ k, k < w.heap.size → uv.ownBlock ≠ some k → uv'.ownBlock ≠ some k := by
    intro k h1 h2 h3
    rcases hat with ho | ho
    · exact h2 (ho ▸ h3)
    · rw [ho] at h3; injection h3 with h3; omega
  have hap : ∀ (x : Value) , (∀ k, x.ownBlock = some k → k < w.heap.size) → Apart uv x → Apart uv' x := by
    intro x hx ha k hk hk2
    have h1 := hx k hk2
    exact hne k h1 (fun e => ha k e hk2) hk
  refine ⟨h.sh.upd hu (fun k hk => ?_), row_upd h.ats hu (fun k hk hm => ?_), ?_, fun p hp => ?_, h.d1, hap _ (fun k hk => (hov k hk).2) h.d2, hap _ (fun k hk => (hav k hk).2) h.d3⟩
  · have hk' := Option.mem_toList.1 hk
    exact ⟨(huv k hk').1, fun e => h.d2 k hk' e⟩
  · exact h.d3 k (Option.mem_toList.1 hm) hk
  · rw [oflat_snoc, List.length_append]
    exact hrow
  · rcases List.mem_append.1 hp with hp | hp
    · obtain ⟨h1, h2⟩ := h.vals p hp
      rcases h2 with h2 | ⟨h2, h3, h4, h5⟩
      · exact ⟨h1.upd hu (.inl h2), .inl h2⟩
      · exact ⟨h1.upd hu (.inr (fun hm => h5 (Option.mem_toList.1 hm))), .inr ⟨h2, Nat.lt_of_lt_of_le h3 hu.size, h4, hne _ h3 h5⟩⟩
    · simp only [List.mem_singleton] at hp
      subst hp
      rcases hqb with h2 | ⟨h2, h3, h4, h5⟩
      · exact ⟨hq.upd hu (.inl h2), .inl h2⟩
      · exact ⟨hq.upd hu (.inr (fun hm => h5 (Option.mem_toList.1 hm))), .inr ⟨h2, Nat.lt_of_lt_of_le h3 hu.size, h4, hne _ h3 h5⟩⟩

/-- The memory in the midst of one object: its box, its values' row. -/
structure ROb (w : World) (B : Nat) (cv mv : Value) (N : Nat) (ov : Value) (od : List Int) (av : Value) (ats : List Int) (uv : Value) (ps : List OP) (ob : Nat) (c : Int) (vv : Value) (xs : List Int) : Prop where
  st : ROut w B cv mv N ov od av ats uv ps
  box : w.heap[ob]? = some (.cells #[.int .i64 c, vv] 61)
  row : w.ownsRow (B + 2) 2 1 vv xs.length (xs.map (Value.int .i64))
  fb : RFree B ov av uv ps ob
  fv : ∀ k, vv.ownBlock = some k → RFree B ov av uv ps k ∧ k ≠ ob

theorem RFree.met {w w' : World} {B : Nat} {ov ov' av uv : Value} {ps : List OP} {k : Nat} (h : RFree B ov av uv ps k) (hk : k < w.heap.size) (hm : RMet B ov ov' w w') : RFree B ov' av uv ps k := by
  refine ⟨h.1, ?_, h.2.2.1, h.2.2.2.1, h.2.2.2.2⟩
  rcases hm.2 with ho | ⟨j, hj, hj2⟩
  · rw [ho]; exact h.2.1
  · rw [hj]; intro e; injection e with e; omega

theorem RFree.notin {B : Nat} {ov av uv : Value} {ps : List OP} {k : Nat} (h : RFree B ov av uv ps k) : k ∉ [B + 1] ++ ov.ownBlock.toList := by
  intro h3
  simp only [List.mem_append, List.mem_cons, List.not_mem_nil, or_false, Option.mem_toList] at h3
  rcases h3 with h3 | h3
  · have := h.1; omega
  · exact h.2.1 h3

theorem ROb.met {w w' : World} {B : Nat} {cv mv : Value} {N : Nat} {ov ov' : Value} {od od' : List Int} {av : Value} {ats : List Int} {uv : Value} {ps : List OP} {ob : Nat} {c : Int} {vv : Value} {xs : List Int} (h : ROb w B cv mv N ov od av ats uv ps ob c vv xs)
    (hs : RShp w' B cv mv N ov' od') (hm : RMet B ov ov' w w') : ROb w' B cv mv N ov' od' av ats uv ps ob c vv xs :=
  ⟨h.st.met hs hm, hm.1.heap h.box h.fb.notin, row_upd h.row hm.1 (fun k hk => (h.fv k hk).1.notin), h.fb.met (lt_of_heap h.box) hm, fun k hk => ⟨(h.fv k hk).1.met (h.row.lt k hk).2 hm, (h.fv k hk).2⟩⟩

/-- One value more. -/
theorem ROb.push {w w' : World} {B : Nat} {cv mv : Value} {N : Nat} {ov : Value} {od : List Int} {av : Value} {ats : List Int} {uv : Value} {ps : List OP} {ob : Nat} {c : Int} {vv vv' : Value} {xs : List Int} (h : ROb w B cv mv N ov od av ats uv ps ob c vv xs)
    (x : Int) (hrow : w'.ownsRow (B + 2) 2 1 vv' (xs.length + 1) (xs.map (Value.int .i64) ++ [.int .i64 x])) (hg : w.grownBy w' vv.ownBlock) (hat : vv'.ownBlock = vv.ownBlock ∨ vv'.ownBlock = some w.heap.size) :
    ROb (w'.setCell ⟨ob, 1, none⟩ vv') B cv mv N ov od av ats uv ps ob c vv' (xs ++ [x]) := by
  have hu : Upd vv.ownBlock.toList w w' := (Upd.refl _ w).grown hg (fun k hk => Or.inl (Option.mem_toList.2 hk))
  have hnew : RFree B ov av uv ps w.heap.size := by
    refine ⟨?_, ?_, ?_, ?_, fun p hp => ?_⟩
    · have := lt_of_heap h.st.sh.num; omega
    · intro e; have := (h.st.sh.row.lt _ e).2; omega
    · intro e; have := (h.st.ats.lt _ e).2; omega
    · intro e; have := (h.st.out.lt _ e).2; omega
    · rcases (h.st.vals p hp).2 with h1 | h1
      · exact .inl h1
      · exact .inr (by omega)
  have hbox := hu.heap h.box (fun hm => (h.fv _ (Option.mem_toList.1 hm)).2 rfl)
  have hu2 : Upd [ob] w' (w'.setCell ⟨ob, 1, none⟩ vv') := (Upd.refl _ _).setCell (Or.inl (by simp)) _
  have hst := (h.st.upd hu (fun k hk => (h.fv k (Option.mem_toList.1 hk)).1)).upd hu2 (fun k hk => by simp at hk; subst hk; exact h.fb)
  have hbs := lt_of_heap h.box
  have hfv : ∀ k, vv'.ownBlock = some k → RFree B ov av uv ps k ∧ k ≠ ob := by
    intro k hk
    rcases hat with ho | ho
    · exact h.fv k (ho ▸ hk)
    · rw [ho] at hk
      injection hk with hk
      subst hk
      exact ⟨hnew, by omega⟩
  refine ⟨hst, ?_, ?_, h.fb, hfv⟩
  · have := heap_setCell hbox 1 vv'
    simpa using this
  · have h1 := row_upd hrow hu2 (fun k hk hm => by simp at hm; exact (hfv k hk).2 hm)
    simpa using h1

theorem ROut.fresh {w : World} {B : Nat} {cv mv : Value} {N : Nat} {ov : Value} {od : List Int} {av : Value} {ats : List Int} {uv : Value} {ps : List OP} (h : ROut w B cv mv N ov od av ats uv ps) : RFree B ov av uv ps w.heap.size := by
  refine ⟨?_, ?_, ?_, ?_, fun p hp => ?_⟩
  · have := lt_of_heap h.sh.num; omega
  · intro e; have := (h.sh.row.lt _ e).2; omega
  · intro e; have := (h.ats.lt _ e).2; omega
  · intro e; have := (h.out.lt _ e).2; omega
  · rcases (h.vals p hp).2 with h1 | h1
    · exact .inl h1
    · exact .inr (by omega)

theorem ROb.begin {w : World} {B : Nat} {cv mv : Value} {N : Nat} {ov : Value} {od : List Int} {av : Value} {ats : List Int} {uv : Value} {ps : List OP} (h : ROut w B cv mv N ov od av ats uv ps) (c : Int) :
    ROb (w.alloc (.cells #[.int .i64 c, .slice none 0 0] 61)) B cv mv N ov od av ats uv ps w.heap.size c (.slice none 0 0) [] :=
  ⟨h.upd ((Upd.refl [] w).alloc _) (by simp), heap_alloc_new w _, World.ownsRow_nil _ _ _ _, h.fresh, fun k hk => by simp [Value.ownBlock] at hk⟩

theorem ROb.upd0 {w w' : World} {B : Nat} {cv mv : Value} {N : Nat} {ov : Value} {od : List Int} {av : Value} {ats : List Int} {uv : Value} {ps : List OP} {ob : Nat} {c : Int} {vv : Value} {xs : List Int} (h : ROb w B cv mv N ov od av ats uv ps ob c vv xs) (hu : Upd [] w w') :
    ROb w' B cv mv N ov od av ats uv ps ob c vv xs :=
  ⟨h.st.upd hu (by simp), hu.heap h.box (by simp), row_upd h.row hu (by simp), h.fb, h.fv⟩

theorem ROb.form {w : World} {B : Nat} {cv mv : Value} {N : Nat} {ov : Value} {od : List Int} {av : Value} {ats : List Int} {uv : Value} {ps : List OP} {ob : Nat} {c : Int} {vv : Value} {xs : List Int} (h : ROb w B cv mv N ov od av ats uv ps ob c vv xs) : ∃ q c', vv = .slice q xs.length c' := by
  rcases h.row.2 with ⟨h1, h2⟩ | ⟨g, c, _, h1, _⟩
  · exact ⟨none, 0, by rw [h1, h2]⟩
  · exact ⟨_, c, h1⟩

/-- The finished object. -/
theorem ROb.op {w : World} {B : Nat} {cv mv : Value} {N : Nat} {ov : Value} {od : List Int} {av : Value} {ats : List Int} {uv : Value} {ps : List OP} {ob : Nat} {c : Int} {vv : Value} {xs : List Int} (h : ROb w B cv mv N ov od av ats uv ps ob c vv xs) :
    ∃ b, IntsV w vv b xs ∧ (xs = [] ∨ B + 2 ≤ b ∧ b < w.heap.size ∧ ov.ownBlock ≠ some b ∧ uv.ownBlock ≠ some b) := by
  obtain ⟨b, h1, h2⟩ := IntsV.of_row h.row
  refine ⟨b, h1, ?_⟩
  rcases h2 with h2 | h2
  · exact .inl h2
  · have h3 := (h.fv b h2).1
    exact .inr ⟨h3.1, (h.row.lt b h2).2, h3.2.1, h3.2.2.2.1⟩

end Go.Proofs.YtlkflkgohclbmaaDoor
