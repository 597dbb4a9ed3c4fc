/- Shapes of graphs, in plain Lean: what Shape computes, of any graph; graphs that are alike have the same shape. -/
import Derived.Test.YtneeljhjfmcdoaaDoorShape3
namespace Go.Proofs.YtneeljhjfmcdoaaDoor
open Go.RowKit

/-- A graph of objects: which numbers are objects; class, number of values, values, which are references. -/
structure Gr where
  is : Int → Bool
  cls : Int → Int
  num : Int → Int
  get : Int → Int → Int
  refB : Int → Int → Bool

def Gr.meetV (G : Gr) (od : List Int) (r : Int) : Int := if G.is r = true then ((od.idxOf r : Nat) : Int) else -1
def Gr.meetO (G : Gr) (od : List Int) (r : Int) : List Int := if G.is r = true ∧ r ∉ od then od ++ [r] else od
def Gr.valStep (G : Gr) (r : Int) (s : List Int × List Int) (i : Nat) : List Int × List Int :=
  if G.refB r i = true then (s.1 ++ [G.meetV s.2 (G.get r i)], G.meetO s.2 (G.get r i)) else (s.1 ++ [G.get r i], s.2)
def Gr.vals (G : Gr) (r : Int) (od : List Int) (n : Nat) : List Int × List Int := (List.range n).foldl (G.valStep r) ([], od)
def Gr.outStep (G : Gr) (s : List (Int × List Int) × List Int) : List (Int × List Int) × List Int :=
  if s.1.length < s.2.length then (s.1 ++ [(G.cls (s.2.getD s.1.length 0), (G.vals (s.2.getD s.1.length 0) s.2 (G.num (s.2.getD s.1.length 0)).toNat).1)], (G.vals (s.2.getD s.1.length 0) s.2 (G.num (s.2.getD s.1.length 0)).toNat).2) else s
def Gr.outN (G : Gr) : Nat → List (Int × List Int) × List Int → List (Int × List Int) × List Int
  | 0, s => s
  | n + 1, s => G.outStep (G.outN n s)
def Gr.rootStep (G : Gr) (s : List Int × List Int) (r : Int) : List Int × List Int := (s.1 ++ [G.meetV s.2 r], G.meetO s.2 r)
def Gr.roots (G : Gr) (rs : List Int) : List Int × List Int := rs.foldl G.rootStep ([], [])
/-- The shape, in so many rounds. -/
def Gr.shapeN (G : Gr) (n : Nat) (rs : List Int) : List (Int × List Int) × List Int := ((G.outN n ([], (G.roots rs).2)).1, (G.roots rs).1)

def Hp.gr (S : Hp) : Gr := ⟨S.is, S.cls, S.num, S.get, S.refB⟩

theorem gr_outN (S : Hp) (n : Nat) (s : List (Int × List Int) × List Int) : S.outN n s = S.gr.outN n s := by
  induction n with
  | zero => rfl
  | succ n ih =>
    show S.outStep (S.outN n s) = S.gr.outStep (S.gr.outN n s)
    rw [ih]; rfl
theorem gr_shape (S : Hp) (rs : List Int) : S.shape rs = S.gr.shapeN (S.A.length + 1) rs := by
  show ((S.outN (S.A.length + 1) ([], (S.roots rs).2)).1, (S.roots rs).1) = ((S.gr.outN (S.A.length + 1) ([], (S.gr.roots rs).2)).1, (S.gr.roots rs).1)
  rw [gr_outN]; rfl

theorem Gr.outN_stay (G : Gr) (s : List (Int × List Int) × List Int) (n m : Nat) (h : ¬ (G.outN n s).1.length < (G.outN n s).2.length) (hm : n ≤ m) : G.outN m s = G.outN n s := by
  obtain ⟨d, rfl⟩ : ∃ d, m = n + d := ⟨m - n, by omega⟩
  clear hm
  induction d with
  | zero => rfl
  | succ d ih =>
    show G.outStep (G.outN (n + d) s) = _
    rw [ih, Gr.outStep, if_neg h]

theorem Gr.vals_succ (G : Gr) (r : Int) (od : List Int) (n : Nat) : G.vals r od (n + 1) = G.valStep r (G.vals r od n) n := by
  simp [Gr.vals, List.range_succ]

/-- Two graphs are alike through a relation of their numbers. -/
structure Alike (G H : Gr) (R : Int → Int → Prop) : Prop where
  is : ∀ a b, R a b → G.is a = H.is b
  cls : ∀ a b, R a b → G.is a = true → G.cls a = H.cls b
  num : ∀ a b, R a b → G.is a = true → G.num a = H.num b
  refB : ∀ a b, R a b → G.is a = true → ∀ j : Nat, (j : Int) < G.num a → G.refB a j = H.refB b j
  val : ∀ a b, R a b → G.is a = true → ∀ j : Nat, (j : Int) < G.num a → G.refB a j = false → G.get a j = H.get b j
  ref : ∀ a b, R a b → G.is a = true → ∀ j : Nat, (j : Int) < G.num a → G.refB a j = true → R (G.get a j) (H.get b j)
  inj : ∀ a b c d, R a b → R c d → G.is a = true → G.is c = true → (a = c ↔ b = d)

/-- Orders that correspond: the same length, each pair related, all of them objects. -/
def OdR (G : Gr) (R : Int → Int → Prop) (l m : List Int) : Prop := l.length = m.length ∧ ∀ k, k < l.length → R (l.getD k 0) (m.getD k 0) ∧ G.is (l.getD k 0) = true

theorem OdR.nil (G : Gr) (R : Int → Int → Prop) : OdR G R [] [] := ⟨rfl, fun k hk => by simp at hk⟩
theorem OdR.snoc {G : Gr} {R : Int → Int → Prop} {l m : List Int} {a b : Int} (h : OdR G R l m) (hr : R a b) (hi : G.is a = true) : OdR G R (l ++ [a]) (m ++ [b]) := by
  obtain ⟨h1, h2⟩ := h
  refine ⟨by simp [h1], fun k hk => ?_⟩
  simp only [List.length_append, List.length_singleton] at hk
  by_cases hkl : k < l.length
  · have e1 : (l ++ [a]).getD k 0 = l.getD k 0 := by simp only [List.getD_eq_getElem?_getD]; rw [List.getElem?_append_left hkl]
    have e2 : (m ++ [b]).getD k 0 = m.getD k 0 := by simp only [List.getD_eq_getElem?_getD]; rw [List.getElem?_append_left (by omega)]
    rw [e1, e2]
    exact h2 k hkl
  · have e : k = l.length := by omega
    subst e
    have e1 : (l ++ [a]).getD l.length 0 = a := by simp [List.getD_eq_getElem?_getD]
    have e2 : (m ++ [b]).getD l.length 0 = b := by rw [h1]; simp [List.getD_eq_getElem?_getD]
    rw [e1, e2]
    exact ⟨hr, hi⟩

theorem idx_le_get (l : List Int) (a : Int) (k : Nat) (hk : k < l.length) (h : l.getD k 0 = a) : l.idxOf a ≤ k := by
  have hm : l[k] = a := by rw [List.getD_eq_getElem?_getD, List.getElem?_eq_getElem hk] at h; simpa using h
  rcases Nat.lt_or_ge k (l.idxOf a) with hlt | hge
  · exfalso
    have := List.not_of_lt_findIdx (p := (· == a)) (xs := l) (i := k) (by simpa [List.idxOf] using hlt)
    simp [hm] at this
  · exact hge
theorem idx_get (l : List Int) (a : Int) (h : l.idxOf a < l.length) : l.getD (l.idxOf a) 0 = a := by
  rw [List.getD_eq_getElem?_getD, List.getElem?_eq_getElem h]
  simp

theorem OdR.idx {G H : Gr} {R : Int → Int → Prop} (A : Alike G H R) {l m : List Int} (h : OdR G R l m) {a b : Int} (hr : R a b) (hi : G.is a = true) : l.idxOf a = m.idxOf b := by
  obtain ⟨h1, h2⟩ := h
  have key : ∀ k, k < l.length → (l.getD k 0 = a ↔ m.getD k 0 = b) := fun k hk => A.inj _ _ _ _ (h2 k hk).1 hr (h2 k hk).2 hi
  have hl : l.idxOf a ≤ l.length := List.idxOf_le_length
  have hm : m.idxOf b ≤ m.length := List.idxOf_le_length
  rcases Nat.lt_or_ge (l.idxOf a) l.length with c1 | c1
  · have e1 := (key _ c1).1 (idx_get l a c1)
    have h3 := idx_le_get m b _ (by omega) e1
    have c2 : m.idxOf b < m.length := by omega
    have e2 := (key _ (by omega)).2 (idx_get m b c2)
    have h4 := idx_le_get l a _ (by omega) e2
    omega
  · rcases Nat.lt_or_ge (m.idxOf b) m.length with c2 | c2
    · have e2 := (key _ (by omega)).2 (idx_get m b c2)
      have h4 := idx_le_get l a _ (by omega) e2
      omega
    · omega

theorem mem_idx (l : List Int) (a : Int) : a ∈ l ↔ l.idxOf a < l.length := List.idxOf_lt_length_iff.symm

theorem OdR.meet {G H : Gr} {R : Int → Int → Prop} (A : Alike G H R) {l m : List Int} (h : OdR G R l m) {a b : Int} (hr : R a b) : G.meetV l a = H.meetV m b ∧ OdR G R (G.meetO l a) (H.meetO m b) := by
  unfold Gr.meetV Gr.meetO
  have hi := A.is a b hr
  cases hg : G.is a with
  | false =>
    rw [hg] at hi
    rw [← hi]
    simpa using h
  | true =>
    rw [hg] at hi
    rw [← hi]
    have hx := h.idx A hr hg
    refine ⟨by rw [hx], ?_⟩
    by_cases hm : a ∈ l
    · have hm2 : b ∈ m := by rw [mem_idx] at hm ⊢; have := h.1; omega
      simpa [hm, hm2] using h
    · have hm2 : b ∉ m := by rw [mem_idx] at hm ⊢; have := h.1; omega
      simpa [hm, hm2] using h.snoc hr hg

theorem vals_sim {G H : Gr} {R : Int → Int → Prop} (A : Alike G H R) {l m : List Int} (h : OdR G R l m) {a b : Int} (hr : R a b) (hi : G.is a = true) (n : Nat) (hn : (n : Int) ≤ G.num a) :
    (G.vals a l n).1 = (H.vals b m n).1 ∧ OdR G R (G.vals a l n).2 (H.vals b m n).2 := by
  induction n with
  | zero => exact ⟨rfl, h⟩
  | succ n ih =>
    obtain ⟨e1, e2⟩ := ih (by omega)
    rw [Gr.vals_succ, Gr.vals_succ, Gr.valStep, Gr.valStep, ← A.refB a b hr hi n (by omega)]
    cases hrf : G.refB a n with
    | true =>
      obtain ⟨m1, m2⟩ := e2.meet A (A.ref a b hr hi n (by omega) hrf)
      simp only [if_true]
      exact ⟨by rw [e1, m1], m2⟩
    | false =>
      simp only [Bool.false_eq_true, if_false]
      exact ⟨by rw [e1, A.val a b hr hi n (by omega) hrf], e2⟩

theorem out_sim {G H : Gr} {R : Int → Int → Prop} (A : Alike G H R) (n : Nat) {l m : List Int} (h : OdR G R l m) :
    (G.outN n ([], l)).1 = (H.outN n ([], m)).1 ∧ OdR G R (G.outN n ([], l)).2 (H.outN n ([], m)).2 := by
  induction n with
  | zero => exact ⟨rfl, h⟩
  | succ n ih =>
    obtain ⟨e1, e2⟩ := ih
    show (G.outStep (G.outN n ([], l))).1 = (H.outStep (H.outN n ([], m))).1 ∧ OdR G R (G.outStep (G.outN n ([], l))).2 (H.outStep (H.outN n ([], m))).2
    generalize G.outN n ([], l) = s at *
    generalize H.outN n ([], m) = t at *
    obtain ⟨s1, s2⟩ := s
    obtain ⟨t1, t2⟩ := t
    simp only at e1 e2
    subst e1
    unfold Gr.outStep
    have hl := e2.1
    simp only
    by_cases hc : s1.length < s2.length
    · rw [if_pos hc, if_pos (by omega)]
      obtain ⟨hr, hi⟩ := e2.2 _ hc
      have hnum := A.num _ _ hr hi
      have hv := vals_sim A e2 hr hi (G.num (s2.getD s1.length 0)).toNat
      rw [← hnum, ← A.cls _ _ hr hi]
      by_cases hpos : 0 ≤ G.num (s2.getD s1.length 0)
      · obtain ⟨v1, v2⟩ := hv (by omega)
        exact ⟨by rw [v1], v2⟩
      · have ez : (G.num (s2.getD s1.length 0)).toNat = 0 := by omega
        rw [ez]
        exact ⟨rfl, e2⟩
    · rw [if_neg hc, if_neg (by omega)]
      exact ⟨rfl, e2⟩

theorem roots_sim {G H : Gr} {R : Int → Int → Prop} (A : Alike G H R) (rs ts : List Int) (hl : rs.length = ts.length) (hr : ∀ k, k < rs.length → R (rs.getD k 0) (ts.getD k 0)) :
    (G.roots rs).1 = (H.roots ts).1 ∧ OdR G R (G.roots rs).2 (H.roots ts).2 := by
  have key : ∀ (rs ts : List Int) (s t : List Int × List Int), rs.length = ts.length → (∀ k, k < rs.length → R (rs.getD k 0) (ts.getD k 0)) → s.1 = t.1 → OdR G R s.2 t.2 →
      (rs.foldl G.rootStep s).1 = (ts.foldl H.rootStep t).1 ∧ OdR G R (rs.foldl G.rootStep s).2 (ts.foldl H.rootStep t).2 := by
    intro rs
    induction rs with
    | nil =>
      intro ts s t hl _ h1 h2
      cases ts with
      | nil => exact ⟨h1, h2⟩
      | cons _ _ => simp at hl
    | cons a rs ih =>
      intro ts s t hl hr h1 h2
      cases ts with
      | nil => simp at hl
      | cons b ts =>
        have hab : R a b := by simpa using hr 0 (by simp)
        obtain ⟨m1, m2⟩ := h2.meet A hab
        exact ih ts _ _ (by simpa using hl) (fun k hk => by simpa using hr (k + 1) (by simpa using hk)) (by show s.1 ++ [_] = t.1 ++ [_]; rw [h1, m1]) m2
  exact key rs ts ([], []) ([], []) hl hr rfl (OdR.nil _ _)

/-- Graphs that are alike have the same shape. -/
theorem shape_sim {G H : Gr} {R : Int → Int → Prop} (A : Alike G H R) (n : Nat) (rs ts : List Int) (hl : rs.length = ts.length) (hr : ∀ k, k < rs.length → R (rs.getD k 0) (ts.getD k 0)) :
    G.shapeN n rs = H.shapeN n ts := by
  obtain ⟨e1, e2⟩ := roots_sim A rs ts hl hr
  obtain ⟨e3, _⟩ := out_sim A n e2
  unfold Gr.shapeN
  rw [e1, e3]

end Go.Proofs.YtneeljhjfmcdoaaDoor
