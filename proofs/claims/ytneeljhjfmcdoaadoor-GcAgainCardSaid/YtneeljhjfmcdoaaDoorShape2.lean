/- Shape: what it computes, and its memory. -/
import Derived.Test.YtneeljhjfmcdoaaDoorShape1
import Derived.Test.YtneeljhjfmcdoaaDoorInts
namespace Go.Proofs.YtneeljhjfmcdoaaDoor
open Go.RowKit

theorem map_upd {w w' : World} {P : Program} {k : TypeId} {R : Value → Option (DataW Nat × List MemPlace)} {b n : Nat} {D : DataW Nat} {T : List Nat} (h : w.ownsMap P k R b n D) (hu : Upd T w w') (hT : b ∉ T) : w'.ownsMap P k R b n D := by
  obtain ⟨es, clock, hb, F, hs, hD⟩ := h
  exact ⟨es, clock, hu.heap hb hT, F, hs, hD⟩

theorem Shp.upd {w w' : World} {B : Nat} {L : HL} {cv mv : Value} {S : Hp} {ov : Value} {od : List Int} {T : List Nat} (h : Shp w B L cv mv S ov od) (hu : Upd T w w') (hT : ∀ k ∈ T, B + 4 ≤ k ∧ ov.ownBlock ≠ some k) : Shp w' B L cv mv S ov od := by
  have hno : ∀ k, k < B + 4 → k ∉ T := fun k hk hm => by have := (hT k hm).1; omega
  obtain ⟨D, hD, hN⟩ := h.num
  exact ⟨h.hp.upd hu (fun i hi => hno i (by have := h.low i hi; omega)), hu.heap h.c0 (hno _ (by omega)), hu.heap h.c2 (hno _ (by omega)), hu.heap h.c3 (hno _ (by omega)), row_upd h.row hu (fun k hk hm => (hT k hm).2 hk), ⟨D, map_upd hD hu (hno _ (by omega)), hN⟩, h.low, h.nd, h.obj⟩

/-- An object that Shape hands out: its class, its values, the slice value, the block. -/
structure OP where
  c : Int
  xs : List Int
  v : Value
  b : Nat

def OP.o (p : OP) : Int × List Int := (p.c, p.xs)
def oflat (ps : List OP) : List Value := ps.flatMap fun p => [Value.int .i64 p.c, p.v]

theorem oflat_len (ps : List OP) : (oflat ps).length = ps.length * 2 := by
  induction ps with
  | nil => rfl
  | cons p t ih => simp only [oflat, List.flatMap_cons, List.length_append, List.length_cons, List.length_nil] at ih ⊢; omega

theorem oflat_snoc (ps : List OP) (p : OP) : oflat (ps ++ [p]) = oflat ps ++ [Value.int .i64 p.c, p.v] := by simp [oflat]

def Apart (a b : Value) : Prop := ∀ k, a.ownBlock = some k → b.ownBlock ≠ some k

/-- One object is told. -/
def Hp.valStep (S : Hp) (r : Int) (s : List Int × List Int) (i : Nat) : List Int × List Int :=
  if S.refB r i = true then (s.1 ++ [S.meetV s.2 (S.get r i)], S.meetO s.2 (S.get r i)) else (s.1 ++ [S.get r i], s.2)
def Hp.vals (S : Hp) (r : Int) (od : List Int) (n : Nat) : List Int × List Int := (List.range n).foldl (S.valStep r) ([], od)

theorem vals_succ (S : Hp) (r : Int) (od : List Int) (n : Nat) : S.vals r od (n + 1) = S.valStep r (S.vals r od n) n := by
  simp [Hp.vals, List.range_succ]

theorem vals_len (S : Hp) (r : Int) (od : List Int) (n : Nat) : (S.vals r od n).1.length = n := by
  induction n with
  | zero => rfl
  | succ n ih =>
    rw [vals_succ, Hp.valStep]
    split <;> simp [ih]

theorem meetO_mono (S : Hp) (od : List Int) (r : Int) : od.length ≤ (S.meetO od r).length := by
  unfold Hp.meetO; split <;> simp

theorem vals_mono (S : Hp) (r : Int) (od : List Int) (n : Nat) : od.length ≤ (S.vals r od n).2.length := by
  induction n with
  | zero => exact Nat.le_refl _
  | succ n ih =>
    rw [vals_succ, Hp.valStep]
    split
    · exact Nat.le_trans ih (meetO_mono _ _ _)
    · exact ih

/-- The objects' round. -/
def Hp.outStep (S : Hp) (s : List (Int × List Int) × List Int) : List (Int × List Int) × List Int :=
  if s.1.length < s.2.length then (s.1 ++ [(S.cls (s.2.getD s.1.length 0), (S.vals (s.2.getD s.1.length 0) s.2 (S.num (s.2.getD s.1.length 0)).toNat).1)], (S.vals (s.2.getD s.1.length 0) s.2 (S.num (s.2.getD s.1.length 0)).toNat).2) else s
def Hp.outN (S : Hp) : Nat → List (Int × List Int) × List Int → List (Int × List Int) × List Int
  | 0, s => s
  | n + 1, s => S.outStep (S.outN n s)

/-- The roots' round. -/
def Hp.rootStep (S : Hp) (s : List Int × List Int) (r : Int) : List Int × List Int := (s.1 ++ [S.meetV s.2 r], S.meetO s.2 r)
def Hp.roots (S : Hp) (rs : List Int) : List Int × List Int := rs.foldl S.rootStep ([], [])

theorem roots_take (S : Hp) (rs : List Int) (k : Nat) (h : k < rs.length) : S.roots (rs.take (k + 1)) = S.rootStep (S.roots (rs.take k)) (rs.getD k 0) := by
  have : rs.take (k + 1) = rs.take k ++ [rs.getD k 0] := by
    rw [List.take_add_one, List.getElem?_eq_getElem h, List.getD_eq_getElem?_getD, List.getElem?_eq_getElem h]; rfl
  rw [this]
  simp [Hp.roots]

theorem roots_len (S : Hp) (rs : List Int) : (S.roots rs).1.length = rs.length := by
  have : ∀ (rs : List Int) (s : List Int × List Int), (rs.foldl S.rootStep s).1.length = s.1.length + rs.length := by
    intro rs
    induction rs with
    | nil => intro s; simp
    | cons a t ih => intro s; rw [List.foldl_cons, ih]; simp [Hp.rootStep]; omega
  have h := this rs ([], [])
  unfold Hp.roots
  rw [h]
  simp

/-- What Shape answers: as many rounds as there may be objects. -/
def Hp.shape (S : Hp) (rs : List Int) : List (Int × List Int) × List Int := ((S.outN (S.A.length + 1) ([], (S.roots rs).2)).1, (S.roots rs).1)

theorem outN_stay (S : Hp) (s : List (Int × List Int) × List Int) (n m : Nat) (h : ¬ (S.outN n s).1.length < (S.outN n s).2.length) (hm : n ≤ m) : S.outN m s = S.outN n s := by
  obtain ⟨d, rfl⟩ : ∃ d, m = n + d := ⟨m - n, by omega⟩
  clear hm
  induction d with
  | zero => rfl
  | succ d ih =>
    show S.outStep (S.outN (n + d) s) = _
    rw [ih, Hp.outStep, if_neg h]

/-- The memory in the midst of Shape. -/
structure OutSt (w : World) (B : Nat) (L : HL) (cv mv : Value) (S : Hp) (ov : Value) (od : List Int) (av : Value) (ats : List Int) (uv : Value) (ps : List OP) : Prop where
  sh : Shp w B L cv mv S ov od
  ats : w.ownsRow (B + 4) 3 1 av ats.length (ats.map (Value.int .i64))
  out : w.ownsRow (B + 4) 106 2 uv ps.length (oflat ps)
  vals : ∀ p ∈ ps, IntsV w p.v p.b p.xs ∧ (p.xs = [] ∨ B + 4 ≤ p.b ∧ p.b < w.heap.size ∧ ov.ownBlock ≠ some p.b ∧ uv.ownBlock ≠ some p.b)
  d1 : Apart av ov
  d2 : Apart uv ov
  d3 : Apart uv av

/-- Blocks that are none of it. -/
def Free (B : Nat) (ov av uv : Value) (ps : List OP) (k : Nat) : Prop :=
  B + 4 ≤ k ∧ ov.ownBlock ≠ some k ∧ av.ownBlock ≠ some k ∧ uv.ownBlock ≠ some k ∧ ∀ p ∈ ps, p.xs = [] ∨ p.b ≠ k

theorem OutSt.upd {w w' : World} {B : Nat} {L : HL} {cv mv : Value} {S : Hp} {ov : Value} {od : List Int} {av : Value} {ats : List Int} {uv : Value} {ps : List OP} {T : List Nat} (h : OutSt w B L cv mv S ov od av ats uv ps) (hu : Upd T w w')
    (hT : ∀ k ∈ T, Free B ov av uv ps k) : OutSt w' B L cv mv S ov od av ats uv ps := by
  refine ⟨h.sh.upd hu (fun k hk => ⟨(hT k hk).1, (hT k hk).2.1⟩), row_upd h.ats hu (fun k hk hm => (hT k hm).2.2.1 hk), row_upd h.out hu (fun k hk hm => (hT k hm).2.2.2.1 hk), fun p hp => ?_, h.d1, h.d2, h.d3⟩
  obtain ⟨h1, h2⟩ := h.vals p hp
  refine ⟨h1.upd hu ?_, ?_⟩
  · rcases h2 with h2 | h2
    · exact .inl h2
    · by_cases hx : p.xs = []
      · exact .inl hx
      · refine .inr (fun hm => ?_)
        rcases (hT _ hm).2.2.2.2 p hp with h3 | h3
        · exact hx h3
        · exact h3 rfl
  · rcases h2 with h2 | ⟨h2, h3, h4⟩
    · exact .inl h2
    · exact .inr ⟨h2, Nat.lt_of_lt_of_le h3 hu.size, h4⟩

/-- Behind the closure. -/
theorem OutSt.met {w w' : World} {B : Nat} {L : HL} {cv mv : Value} {S : Hp} {ov ov' : Value} {od od' : List Int} {av : Value} {ats : List Int} {uv : Value} {ps : List OP} (h : OutSt w B L cv mv S ov od av ats uv ps)
    (hs : Shp w' B L cv mv S ov' od') (hm : Met B ov ov' w w') : OutSt w' B L cv mv S ov' od' av ats uv ps := by
  obtain ⟨hu, ho⟩ := hm
  have hav := h.ats.lt
  have huv := h.out.lt
  have hin : ∀ k, B + 4 ≤ k → ov.ownBlock ≠ some k → k ∉ [B + 1, B + 3] ++ ov.ownBlock.toList := by
    intro k h1 h2 h3
    simp only [List.mem_append, List.mem_cons, List.not_mem_nil, or_false, Option.mem_toList] at h3
    rcases h3 with (h3 | h3) | h3
    · omega
    · omega
    · exact h2 h3
  have hnew : ∀ k, k < w.heap.size → ov.ownBlock ≠ some k → ov'.ownBlock ≠ some k := by
    intro k h1 h2 h3
    rcases ho with ho | ⟨j, hj, hj2⟩
    · exact h2 (ho ▸ h3)
    · rw [hj] at h3; injection h3 with h3; omega
  refine ⟨hs, row_upd h.ats hu (fun k hk => hin k (hav k hk).1 (h.d1 k hk)), row_upd h.out hu (fun k hk => hin k (huv k hk).1 (h.d2 k hk)), fun p hp => ?_, fun k hk => hnew k (hav k hk).2 (h.d1 k hk), fun k hk => hnew k (huv k hk).2 (h.d2 k hk), h.d3⟩
  obtain ⟨h1, h2⟩ := h.vals p hp
  rcases h2 with h2 | ⟨h2, h3, h4, h5⟩
  · exact ⟨h1.upd hu (.inl h2), .inl h2⟩
  · exact ⟨h1.upd hu (.inr (hin _ h2 h4)), .inr ⟨h2, Nat.lt_of_lt_of_le h3 hu.size, hnew _ h3 h4, h5⟩⟩

/-- The output is grown by one object whose values' block is known. -/
theorem OutSt.push {w w' : World} {B : Nat} {L : HL} {cv mv : Value} {S : Hp} {ov : Value} {od : List Int} {av : Value} {ats : List Int} {uv uv' : Value} {ps : List OP} (h : OutSt w B L cv mv S ov od av ats uv ps)
    (q : OP) (hq : IntsV w q.v q.b q.xs) (hqb : q.xs = [] ∨ B + 4 ≤ q.b ∧ q.b < w.heap.size ∧ ov.ownBlock ≠ some q.b ∧ uv.ownBlock ≠ some q.b)
    (hrow : w'.ownsRow (B + 4) 106 2 uv' (ps.length + 1) (oflat ps ++ [Value.int .i64 q.c, q.v])) (hg : w.grownBy w' uv.ownBlock) (hat : uv'.ownBlock = uv.ownBlock ∨ uv'.ownBlock = some w.heap.size) :
    OutSt w' B L cv mv S ov od av ats uv' (ps ++ [q]) := by
  have hu : Upd uv.ownBlock.toList w w' := (Upd.refl _ w).grown hg (fun k hk => Or.inl (Option.mem_toList.2 hk))
  have huv := h.out.lt
  have hav := h.ats.lt
  have hov := h.sh.row.lt
  have hne : ∀ k, k < w.heap.size → uv.ownBlock ≠ some k → uv'.ownBlock ≠ some k := by
    intro k h1 h2 h3
    rcases hat with ho | ho
    · exact h2 (ho ▸ h3)
    · rw [ho] at h3; injection h3 with h3; omega
  have hap : ∀ (x : Value) , (∀ k, x.ownBlock = some k → k < w.heap.size) → Apart uv x → Apart uv' x := by
    intro x hx ha k hk hk2
    have h1 := hx k hk2
    exact hne k h1 (fun e => ha k e hk2) hk
  refine ⟨h.sh.upd hu (fun k hk => ?_), row_upd h.ats hu (fun k hk hm => ?_), ?_, fun p hp => ?_, h.d1, hap _ (fun k hk => (hov k hk).2) h.d2, hap _ (fun k hk => (hav k hk).2) h.d3⟩
  · have hk' := Option.mem_toList.1 hk
    exact ⟨(huv k hk').1, fun e => h.d2 k hk' e⟩
  · exact h.d3 k (Option.mem_toList.1 hm) hk
  · rw [oflat_snoc, List.length_append]
    exact hrow
  · rcases List.mem_append.1 hp with hp | hp
    · obtain ⟨h1, h2⟩ := h.vals p hp
      rcases h2 with h2 | ⟨h2, h3, h4, h5⟩
      · exact ⟨h1.upd hu (.inl h2), .inl h2⟩
      · exact ⟨h1.upd hu (.inr (fun hm => h5 (Option.mem_toList.1 hm))), .inr ⟨h2, Nat.lt_of_lt_of_le h3 hu.size, h4, hne _ h3 h5⟩⟩
    · simp only [List.mem_singleton] at hp
      subst hp
      rcases hqb with h2 | ⟨h2, h3, h4, h5⟩
      · exact ⟨hq.upd hu (.inl h2), .inl h2⟩
      · exact ⟨hq.upd hu (.inr (fun hm => h5 (Option.mem_toList.1 hm))), .inr ⟨h2, Nat.lt_of_lt_of_le h3 hu.size, h4, hne _ h3 h5⟩⟩

/-- The memory in the midst of one object: its box, its values' row. -/
structure ObSt (w : World) (B : Nat) (L : HL) (cv mv : Value) (S : Hp) (ov : Value) (od : List Int) (av : Value) (ats : List Int) (uv : Value) (ps : List OP) (ob : Nat) (c : Int) (vv : Value) (xs : List Int) : Prop where
  st : OutSt w B L cv mv S ov od av ats uv ps
  box : w.heap[ob]? = some (.cells #[.int .i64 c, vv] 106)
  row : w.ownsRow (B + 4) 2 1 vv xs.length (xs.map (Value.int .i64))
  fb : Free B ov av uv ps ob
  fv : ∀ k, vv.ownBlock = some k → Free B ov av uv ps k ∧ k ≠ ob

theorem Free.met {w w' : World} {B : Nat} {ov ov' av uv : Value} {ps : List OP} {k : Nat} (h : Free B ov av uv ps k) (hk : k < w.heap.size) (hm : Met B ov ov' w w') : Free B ov' av uv ps k := by
  refine ⟨h.1, ?_, h.2.2.1, h.2.2.2.1, h.2.2.2.2⟩
  rcases hm.2 with ho | ⟨j, hj, hj2⟩
  · rw [ho]; exact h.2.1
  · rw [hj]; intro e; injection e with e; omega

theorem Free.notin {B : Nat} {ov av uv : Value} {ps : List OP} {k : Nat} (h : Free B ov av uv ps k) : k ∉ [B + 1, B + 3] ++ ov.ownBlock.toList := by
  intro h3
  simp only [List.mem_append, List.mem_cons, List.not_mem_nil, or_false, Option.mem_toList] at h3
  rcases h3 with (h3 | h3) | h3
  · have := h.1; omega
  · have := h.1; omega
  · exact h.2.1 h3

theorem ObSt.met {w w' : World} {B : Nat} {L : HL} {cv mv : Value} {S : Hp} {ov ov' : Value} {od od' : List Int} {av : Value} {ats : List Int} {uv : Value} {ps : List OP} {ob : Nat} {c : Int} {vv : Value} {xs : List Int} (h : ObSt w B L cv mv S ov od av ats uv ps ob c vv xs)
    (hs : Shp w' B L cv mv S ov' od') (hm : Met B ov ov' w w') : ObSt w' B L cv mv S ov' od' av ats uv ps ob c vv xs :=
  ⟨h.st.met hs hm, hm.1.heap h.box h.fb.notin, row_upd h.row hm.1 (fun k hk => (h.fv k hk).1.notin), h.fb.met (lt_of_heap h.box) hm, fun k hk => ⟨(h.fv k hk).1.met (h.row.lt k hk).2 hm, (h.fv k hk).2⟩⟩

/-- One value more. -/
theorem ObSt.push {w w' : World} {B : Nat} {L : HL} {cv mv : Value} {S : Hp} {ov : Value} {od : List Int} {av : Value} {ats : List Int} {uv : Value} {ps : List OP} {ob : Nat} {c : Int} {vv vv' : Value} {xs : List Int} (h : ObSt w B L cv mv S ov od av ats uv ps ob c vv xs)
    (x : Int) (hrow : w'.ownsRow (B + 4) 2 1 vv' (xs.length + 1) (xs.map (Value.int .i64) ++ [.int .i64 x])) (hg : w.grownBy w' vv.ownBlock) (hat : vv'.ownBlock = vv.ownBlock ∨ vv'.ownBlock = some w.heap.size) :
    ObSt (w'.setCell ⟨ob, 1, none⟩ vv') B L cv mv S ov od av ats uv ps ob c vv' (xs ++ [x]) := by
  have hu : Upd vv.ownBlock.toList w w' := (Upd.refl _ w).grown hg (fun k hk => Or.inl (Option.mem_toList.2 hk))
  have hnew : Free B ov av uv ps w.heap.size := by
    refine ⟨?_, ?_, ?_, ?_, fun p hp => ?_⟩
    · have := lt_of_heap h.st.sh.c3; omega
    · intro e; have := (h.st.sh.row.lt _ e).2; omega
    · intro e; have := (h.st.ats.lt _ e).2; omega
    · intro e; have := (h.st.out.lt _ e).2; omega
    · rcases (h.st.vals p hp).2 with h1 | h1
      · exact .inl h1
      · exact .inr (by omega)
  have hbox := hu.heap h.box (fun hm => (h.fv _ (Option.mem_toList.1 hm)).2 rfl)
  have hu2 : Upd [ob] w' (w'.setCell ⟨ob, 1, none⟩ vv') := (Upd.refl _ _).setCell (Or.inl (by simp)) _
  have hst := (h.st.upd hu (fun k hk => (h.fv k (Option.mem_toList.1 hk)).1)).upd hu2 (fun k hk => by simp at hk; subst hk; exact h.fb)
  have hbs := lt_of_heap h.box
  have hfv : ∀ k, vv'.ownBlock = some k → Free B ov av uv ps k ∧ k ≠ ob := by
    intro k hk
    rcases hat with ho | ho
    · exact h.fv k (ho ▸ hk)
    · rw [ho] at hk
      injection hk with hk
      subst hk
      exact ⟨hnew, by omega⟩
  refine ⟨hst, ?_, ?_, h.fb, hfv⟩
  · have := heap_setCell hbox 1 vv'
    simpa using this
  · have h1 := row_upd hrow hu2 (fun k hk hm => by simp at hm; exact (hfv k hk).2 hm)
    simpa using h1

theorem OutSt.fresh {w : World} {B : Nat} {L : HL} {cv mv : Value} {S : Hp} {ov : Value} {od : List Int} {av : Value} {ats : List Int} {uv : Value} {ps : List OP} (h : OutSt w B L cv mv S ov od av ats uv ps) : Free B ov av uv ps w.heap.size := by
  refine ⟨?_, ?_, ?_, ?_, fun p hp => ?_⟩
  · have := lt_of_heap h.sh.c3; omega
  · intro e; have := (h.sh.row.lt _ e).2; omega
  · intro e; have := (h.ats.lt _ e).2; omega
  · intro e; have := (h.out.lt _ e).2; omega
  · rcases (h.vals p hp).2 with h1 | h1
    · exact .inl h1
    · exact .inr (by omega)

theorem ObSt.begin {w : World} {B : Nat} {L : HL} {cv mv : Value} {S : Hp} {ov : Value} {od : List Int} {av : Value} {ats : List Int} {uv : Value} {ps : List OP} (h : OutSt w B L cv mv S ov od av ats uv ps) (c : Int) :
    ObSt (w.alloc (.cells #[.int .i64 c, .slice none 0 0] 106)) B L cv mv S ov od av ats uv ps w.heap.size c (.slice none 0 0) [] :=
  ⟨h.upd ((Upd.refl [] w).alloc _) (by simp), heap_alloc_new w _, World.ownsRow_nil _ _ _ _, h.fresh, fun k hk => by simp [Value.ownBlock] at hk⟩

theorem ObSt.upd0 {w w' : World} {B : Nat} {L : HL} {cv mv : Value} {S : Hp} {ov : Value} {od : List Int} {av : Value} {ats : List Int} {uv : Value} {ps : List OP} {ob : Nat} {c : Int} {vv : Value} {xs : List Int} (h : ObSt w B L cv mv S ov od av ats uv ps ob c vv xs) (hu : Upd [] w w') :
    ObSt w' B L cv mv S ov od av ats uv ps ob c vv xs :=
  ⟨h.st.upd hu (by simp), hu.heap h.box (by simp), row_upd h.row hu (by simp), h.fb, h.fv⟩

theorem ObSt.form {w : World} {B : Nat} {L : HL} {cv mv : Value} {S : Hp} {ov : Value} {od : List Int} {av : Value} {ats : List Int} {uv : Value} {ps : List OP} {ob : Nat} {c : Int} {vv : Value} {xs : List Int} (h : ObSt w B L cv mv S ov od av ats uv ps ob c vv xs) : ∃ q c', vv = .slice q xs.length c' := by
  rcases h.row.2 with ⟨h1, h2⟩ | ⟨g, c, _, h1, _⟩
  · exact ⟨none, 0, by rw [h1, h2]⟩
  · exact ⟨_, c, h1⟩

/-- The finished object. -/
theorem ObSt.op {w : World} {B : Nat} {L : HL} {cv mv : Value} {S : Hp} {ov : Value} {od : List Int} {av : Value} {ats : List Int} {uv : Value} {ps : List OP} {ob : Nat} {c : Int} {vv : Value} {xs : List Int} (h : ObSt w B L cv mv S ov od av ats uv ps ob c vv xs) :
    ∃ b, IntsV w vv b xs ∧ (xs = [] ∨ B + 4 ≤ b ∧ b < w.heap.size ∧ ov.ownBlock ≠ some b ∧ uv.ownBlock ≠ some b) := by
  obtain ⟨b, h1, h2⟩ := IntsV.of_row h.row
  refine ⟨b, h1, ?_⟩
  rcases h2 with h2 | h2
  · exact .inl h2
  · have h3 := (h.fv b h2).1
    exact .inr ⟨h3.1, (h.row.lt b h2).2, h3.2.1, h3.2.2.2.1⟩

end Go.Proofs.YtneeljhjfmcdoaaDoor
