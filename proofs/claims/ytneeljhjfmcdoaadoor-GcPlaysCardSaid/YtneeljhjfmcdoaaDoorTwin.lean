/- A heap and its mirror: objects as the document has them. Alike, hence of one shape. A heap and its mirror have the same shape. -/
import Derived.Test.YtneeljhjfmcdoaaDoorGraph
import Derived.Test.YtneeljhjfmcdoaaDoorAny
import Derived.Test.YtneeljhjfmcdoaaDoorMet
/-! A heap and its mirror: objects as the document has them. Alike, hence of one shape. -/
namespace Go.Proofs.YtneeljhjfmcdoaaDoor
open Go.RowKit

theorem getD_snoc_lt {α : Type} (l : List α) (x d : α) (k : Nat) (h : k < l.length) : (l ++ [x]).getD k d = l.getD k d := by
  rw [List.getD_eq_getElem?_getD, List.getElem?_append_left h, List.getD_eq_getElem?_getD]
theorem getD_snoc_eq {α : Type} (l : List α) (x d : α) : (l ++ [x]).getD l.length d = x := by simp
theorem nodup_inj : ∀ (l : List Int), l.Nodup → ∀ a b : Nat, a < l.length → b < l.length → l.getD a 0 = l.getD b 0 → a = b := by
  intro l h a b ha hb e
  rw [List.getD_eq_getElem?_getD, List.getD_eq_getElem?_getD, List.getElem?_eq_getElem ha, List.getElem?_eq_getElem hb] at e
  have e' : l[a] = l[b] := e
  unfold List.Nodup at h
  rw [List.pairwise_iff_getElem] at h
  rcases Nat.lt_trichotomy a b with c | c | c
  · exact absurd e' (h a b ha hb c)
  · exact c
  · exact absurd e'.symm (h b a hb ha c)

/-- A reference and a number that say the same object, or none. -/
def RR (rf : List Int) (a b : Int) : Prop := (∃ k : Nat, k < rf.length ∧ a = rf.getD k 0 ∧ b = (k : Int)) ∨ (a = 0 ∧ b = -1)

theorem RR.snoc {rf : List Int} {a b r : Int} (h : RR rf a b) : RR (rf ++ [r]) a b := by
  rcases h with ⟨k, hk, rfl, rfl⟩ | h
  · exact .inl ⟨k, by simp; omega, (getD_snoc_lt _ _ _ _ hk).symm, rfl⟩
  · exact .inr h

/-- What a new object holds in the mirror. -/
def fresh (cs : List ByteArray) (c : Int) (m : Nat) : List Int := (List.range m).map fun (j : Nat) => if letR cs c j = true then -1 else 0
theorem fresh_len (cs : List ByteArray) (c : Int) (m : Nat) : (fresh cs c m).length = m := by simp [fresh]
theorem fresh_get (cs : List ByteArray) (c : Int) (m j : Nat) (h : j < m) : (fresh cs c m).getD j 0 = if letR cs c j = true then -1 else 0 := by
  rw [List.getD_eq_getElem?_getD, fresh, List.getElem?_map, List.getElem?_range h]; rfl

/-- The heap holds these objects, and the mirror shows them. -/
structure Twin (S : Hp) (rf : List Int) (os : List (Int × List Int)) : Prop where
  len : os.length = rf.length
  nd : rf.Nodup
  is : ∀ k, k < rf.length → S.is (rf.getD k 0) = true
  cls : ∀ k, k < rf.length → S.cls (rf.getD k 0) = (os.getD k (0, [])).1
  num : ∀ k, k < rf.length → S.num (rf.getD k 0) = ((os.getD k (0, [])).2.length : Int)
  val : ∀ k, k < rf.length → ∀ j : Nat, j < (os.getD k (0, [])).2.length → S.refB (rf.getD k 0) j = false → S.get (rf.getD k 0) j = (os.getD k (0, [])).2.getD j 0
  ref : ∀ k, k < rf.length → ∀ j : Nat, j < (os.getD k (0, [])).2.length → S.refB (rf.getD k 0) j = true → RR rf (S.get (rf.getD k 0) j) ((os.getD k (0, [])).2.getD j 0)

theorem Twin.nil (S : Hp) : Twin S [] [] := ⟨rfl, List.nodup_nil, by simp, by simp, by simp, by simp, by simp⟩

theorem is_zero (S : Hp) : S.is 0 = false := by simp [Hp.is]

theorem refB_eq {S : Hp} {r : Int} (hr : S.is r = true) (j : Int) : S.refB r j = (decide (0 ≤ j ∧ j < S.num r) && letR S.cs (S.cls r) j) := by
  unfold Hp.refB
  rw [hr]; rfl

theorem Twin.alike {S : Hp} {rf : List Int} {os : List (Int × List Int)} (h : Twin S rf os) : Alike S.gr (objGr S.cs os) (RR rf) := by
  have his : ∀ a b, RR rf a b → S.is a = true → ∃ k : Nat, k < rf.length ∧ a = rf.getD k 0 ∧ b = (k : Int) := by
    rintro a b (h1 | ⟨rfl, rfl⟩) h2
    · exact h1
    · rw [is_zero] at h2; cases h2
  have hlen := h.len
  refine ⟨?_, ?_, ?_, ?_, ?_, ?_, ?_⟩
  · rintro a b (⟨k, hk, rfl, rfl⟩ | ⟨rfl, rfl⟩)
    · show S.is (rf.getD k 0) = decide (0 ≤ (k : Int) ∧ (k : Int) < os.length)
      rw [h.is k hk, eq_comm, decide_eq_true_eq]; omega
    · show S.is 0 = decide (0 ≤ (-1 : Int) ∧ (-1 : Int) < os.length)
      rw [is_zero, eq_comm, decide_eq_false_iff_not]; omega
  · intro a b hr ha
    obtain ⟨k, hk, rfl, rfl⟩ := his a b hr ha
    exact h.cls k hk
  · intro a b hr ha
    obtain ⟨k, hk, rfl, rfl⟩ := his a b hr ha
    exact h.num k hk
  · intro a b hr ha j _
    obtain ⟨k, hk, rfl, rfl⟩ := his a b hr ha
    show S.refB _ _ = _
    rw [refB_eq (h.is k hk), h.num k hk, h.cls k hk]; rfl
  · intro a b hr ha j hj hf
    obtain ⟨k, hk, rfl, rfl⟩ := his a b hr ha
    have hj' : (j : Int) < S.num (rf.getD k 0) := hj
    rw [h.num k hk] at hj'
    exact h.val k hk j (by omega) hf
  · intro a b hr ha j hj hf
    obtain ⟨k, hk, rfl, rfl⟩ := his a b hr ha
    have hj' : (j : Int) < S.num (rf.getD k 0) := hj
    rw [h.num k hk] at hj'
    exact h.ref k hk j (by omega) hf
  · intro a b c d h1 h2 h3 h4
    obtain ⟨k, hk, rfl, rfl⟩ := his a b h1 h3
    obtain ⟨q, hq, rfl, rfl⟩ := his c d h2 h4
    constructor
    · intro e
      have := nodup_inj rf h.nd k q hk hq e
      omega
    · intro e
      have : k = q := by omega
      rw [this]


/-- A new object. -/
theorem Twin.laid {S : Hp} {rf : List Int} {os : List (Int × List Int)} (h : Twin S rf os) (hS : S.Ok) (hb : S.bg.length = (S.A.length + 63) / 64) {k : Nat} {c : Int} {m : Nat} (f : Fits S k c (2 + (m : Int))) :
    Twin (S.laid k c (2 + (m : Int))) (rf ++ [(S.sp k).top + 1]) (os ++ [(c, fresh S.cs c m)]) := by
  have hlen := h.len
  have hnew := laid_is_new hS f hb
  have hnot : (S.sp k).top + 1 ∉ rf := fun hm => by
    obtain ⟨q, hq, e⟩ := List.getElem_of_mem hm
    have := h.is q hq
    rw [List.getD_eq_getElem?_getD, List.getElem?_eq_getElem hq, Option.getD_some, e, laid_new_not hS f] at this
    cases this
  have ecn := laid_cls_new hS f
  have split : ∀ q, q < (rf ++ [(S.sp k).top + 1]).length → q < rf.length ∨ q = rf.length := fun q hq => by simp at hq; omega
  have gr : ∀ q, q < rf.length → (rf ++ [(S.sp k).top + 1]).getD q 0 = rf.getD q 0 := fun q hq => getD_snoc_lt _ _ _ _ hq
  have go : ∀ q, q < rf.length → (os ++ [(c, fresh S.cs c m)]).getD q (0, []) = os.getD q (0, []) := fun q hq => getD_snoc_lt _ _ _ _ (by omega)
  have nr : (rf ++ [(S.sp k).top + 1]).getD rf.length 0 = (S.sp k).top + 1 := getD_snoc_eq _ _ _
  have no : (os ++ [(c, fresh S.cs c m)]).getD rf.length (0, []) = (c, fresh S.cs c m) := by rw [← hlen]; exact getD_snoc_eq _ _ _
  refine ⟨by simp [hlen], ?_, ?_, ?_, ?_, ?_, ?_⟩
  · rw [List.nodup_append]
    refine ⟨h.nd, by simp, ?_⟩
    intro a ha b hb' e
    simp at hb'
    subst hb'
    subst e
    exact hnot ha
  · intro q hq
    rcases split q hq with hq | rfl
    · rw [gr q hq]; exact laid_is_old hS f hb (h.is q hq)
    · rw [nr]; exact hnew
  · intro q hq
    rcases split q hq with hq | rfl
    · rw [gr q hq, go q hq, (laid_cls_old hS f (h.is q hq)).1]; exact h.cls q hq
    · rw [nr, no, ecn.1]
  · intro q hq
    rcases split q hq with hq | rfl
    · rw [gr q hq, go q hq, (laid_cls_old hS f (h.is q hq)).2]; exact h.num q hq
    · rw [nr, no, ecn.2, fresh_len]; omega
  · intro q hq j hj hf
    rcases split q hq with hq | rfl
    · rw [go q hq] at hj ⊢
      rw [gr q hq, laid_refB_old hS f hb (h.is q hq)] at hf
      rw [gr q hq, laid_get_old hS f (h.is q hq) (by omega) (by rw [h.num q hq]; omega)]
      exact h.val q hq j hj hf
    · rw [no] at hj ⊢
      rw [fresh_len] at hj
      rw [nr, laid_refB_new hS f hb, decide_eq_true (by omega : (0 : Int) ≤ j ∧ (j : Int) < 2 + (m : Int) - 2), Bool.true_and] at hf
      rw [nr, laid_get_new hS f (by omega) (by omega), fresh_get _ _ _ _ hj, if_neg (by
        show ¬ (decide (c = -2) || decide (0 ≤ c) && decide ((S.cs.getD c.toNat ByteArray.empty).get! (j : Int).toNat = 82)) = true
        rw [hf]; simp)]
  · intro q hq j hj hf
    rcases split q hq with hq | rfl
    · rw [go q hq] at hj ⊢
      rw [gr q hq, laid_refB_old hS f hb (h.is q hq)] at hf
      rw [gr q hq, laid_get_old hS f (h.is q hq) (by omega) (by rw [h.num q hq]; omega)]
      exact (h.ref q hq j hj hf).snoc
    · rw [no] at hj ⊢
      rw [fresh_len] at hj
      rw [nr, laid_refB_new hS f hb, decide_eq_true (by omega : (0 : Int) ≤ j ∧ (j : Int) < 2 + (m : Int) - 2), Bool.true_and] at hf
      rw [nr, laid_get_new hS f (by omega) (by omega), fresh_get _ _ _ _ hj, if_pos (show letR S.cs c j = true from hf)]
      exact .inr ⟨rfl, rfl⟩

/-- A value put in both. -/
theorem Twin.put {S : Hp} {rf : List Int} {os : List (Int × List Int)} (h : Twin S rf os) (hS : S.Ok) {k j : Nat} {v x : Int} (hk : k < rf.length) (hj : j < (os.getD k (0, [])).2.length)
    (hv : if S.refB (rf.getD k 0) j = true then RR rf v x else v = x) (hm : S.mayRaw (rf.getD k 0) j v = true) :
    Twin (S.put (rf.getD k 0) j v) rf (os.set k ((os.getD k (0, [])).1, (os.getD k (0, [])).2.set j x)) := by
  have hlen := h.len
  have go : ∀ q, q < rf.length → (os.set k ((os.getD k (0, [])).1, (os.getD k (0, [])).2.set j x)).getD q (0, []) = if q = k then ((os.getD k (0, [])).1, (os.getD k (0, [])).2.set j x) else os.getD q (0, []) := fun q hq => by
    rw [List.getD_eq_getElem?_getD, List.getElem?_set]
    split
    · rename_i e
      subst e
      rw [if_pos (by omega), if_pos rfl]; rfl
    · rename_i e
      rw [if_neg (fun e' => e e'.symm), List.getD_eq_getElem?_getD]
  have g1 : ∀ q, q < rf.length → ((os.set k ((os.getD k (0, [])).1, (os.getD k (0, [])).2.set j x)).getD q (0, [])).1 = (os.getD q (0, [])).1 := fun q hq => by
    rw [go q hq]; split
    · rename_i e; subst e; rfl
    · rfl
  have g2 : ∀ q, q < rf.length → ((os.set k ((os.getD k (0, [])).1, (os.getD k (0, [])).2.set j x)).getD q (0, [])).2.length = (os.getD q (0, [])).2.length := fun q hq => by
    rw [go q hq]; split
    · rename_i e; subst e; simp
    · rfl
  have g3 : ∀ q, q < rf.length → ∀ i : Nat, i < (os.getD q (0, [])).2.length → ((os.set k ((os.getD k (0, [])).1, (os.getD k (0, [])).2.set j x)).getD q (0, [])).2.getD i 0 = if q = k ∧ i = j then x else (os.getD q (0, [])).2.getD i 0 := fun q hq i hi => by
    rw [go q hq]
    by_cases e : q = k
    · subst e
      rw [if_pos rfl]
      show ((os.getD q (0, [])).2.set j x).getD i 0 = _
      rw [getD_set _ _ _ _ hj]
      by_cases e : i = j
      · rw [if_pos e, if_pos ⟨rfl, e⟩]
      · rw [if_neg e, if_neg (fun e' => e e'.2)]
    · rw [if_neg e, if_neg (fun e' => e e'.1)]
  have inj : ∀ q, q < rf.length → (rf.getD q 0 = rf.getD k 0 ↔ q = k) := fun q hq => by
    constructor
    · intro e
      exact nodup_inj rf h.nd q k hq hk e
    · intro e; rw [e]
  have hget : ∀ q, q < rf.length → ∀ i : Nat, i < (os.getD q (0, [])).2.length → (S.put (rf.getD k 0) j v).get (rf.getD q 0) i = if q = k ∧ i = j then v else S.get (rf.getD q 0) i := fun q hq i hi => by
    rw [put_get hS hm _ _ (h.is q hq) (by omega) (by rw [h.num q hq]; omega)]
    by_cases e : q = k ∧ i = j
    · rw [if_pos e, if_pos ⟨(inj q hq).2 e.1, by rw [e.2]⟩]
    · rw [if_neg e, if_neg (fun e' => e ⟨(inj q hq).1 e'.1, by omega⟩)]
  refine ⟨by simp [hlen], h.nd, fun q hq => by rw [put_is]; exact h.is q hq, fun q hq => ?_, fun q hq => ?_, ?_, ?_⟩
  · rw [(put_cls hS hm _ (h.is q hq)).1, g1 q hq]; exact h.cls q hq
  · rw [(put_cls hS hm _ (h.is q hq)).2, g2 q hq]; exact h.num q hq
  · intro q hq i hi hf
    rw [g2 q hq] at hi
    rw [put_refB hS hm] at hf
    rw [hget q hq i hi, g3 q hq i hi]
    by_cases e : q = k ∧ i = j
    · rw [if_pos e, if_pos e]
      obtain ⟨rfl, rfl⟩ := e
      rw [hf] at hv
      simpa using hv
    · rw [if_neg e, if_neg e]
      exact h.val q hq i hi hf
  · intro q hq i hi hf
    rw [g2 q hq] at hi
    rw [put_refB hS hm] at hf
    rw [hget q hq i hi, g3 q hq i hi]
    by_cases e : q = k ∧ i = j
    · rw [if_pos e, if_pos e]
      obtain ⟨rfl, rfl⟩ := e
      rw [hf] at hv
      simpa using hv
    · rw [if_neg e, if_neg e]
      exact h.ref q hq i hi hf

end Go.Proofs.YtneeljhjfmcdoaaDoor

/-! A heap and its mirror have the same shape. -/
namespace Go.Proofs.YtneeljhjfmcdoaaDoor
open Go.RowKit

/-- An order of numbers below N, each once. -/
def InN (N : Nat) (od : List Int) : Prop := od.Nodup ∧ ∀ r ∈ od, 0 ≤ r ∧ r < (N : Int)

theorem InN.nil (N : Nat) : InN N [] := ⟨List.nodup_nil, by simp⟩
theorem InN.le {N : Nat} {od : List Int} (h : InN N od) : od.length ≤ N := by
  have h1 := len_le N (od.map (· + 1)) (by
    have := h.1
    unfold List.Nodup at this ⊢
    rw [List.pairwise_map]
    exact this.imp (fun hne e => hne (by omega))) (fun r hr => by
    obtain ⟨q, hq, rfl⟩ := List.mem_map.1 hr
    have := h.2 q hq
    omega)
  simpa using h1

section
variable {G : Gr} {N : Nat} (hG : ∀ r, G.is r = true → 0 ≤ r ∧ r < (N : Int))
include hG
theorem InN.meet {od : List Int} (h : InN N od) (r : Int) : InN N (G.meetO od r) := by
  unfold Gr.meetO
  split
  · rename_i hc
    refine ⟨?_, ?_⟩
    · rw [List.nodup_append]
      refine ⟨h.1, by simp, ?_⟩
      intro a ha b hb e
      simp at hb
      subst hb
      subst e
      exact hc.2 ha
    · intro q hq
      rcases List.mem_append.1 hq with hq | hq
      · exact h.2 q hq
      · simp at hq; subst hq; exact hG _ hc.1
  · exact h

theorem InN.vals {od : List Int} (h : InN N od) (r : Int) (n : Nat) : InN N (G.vals r od n).2 := by
  induction n with
  | zero => exact h
  | succ n ih =>
    rw [Gr.vals_succ]
    unfold Gr.valStep
    split
    · exact ih.meet hG _
    · exact ih

theorem InN.outN {od : List Int} (h : InN N od) (n : Nat) : InN N (G.outN n ([], od)).2 := by
  induction n with
  | zero => exact h
  | succ n ih =>
    show InN N (G.outStep (G.outN n ([], od))).2
    unfold Gr.outStep
    split
    · exact ih.vals hG _ _
    · exact ih

theorem InN.roots (rs : List Int) : InN N (G.roots rs).2 := by
  have : ∀ (l : List Int) (s : List Int × List Int), InN N s.2 → InN N (l.foldl G.rootStep s).2 := by
    intro l
    induction l with
    | nil => intro s h; exact h
    | cons a t ih => intro s h; exact ih _ (h.meet hG _)
  exact this rs _ (InN.nil N)

theorem outN_done {od : List Int} (h : InN N od) : ¬ (G.outN (N + 1) ([], od)).1.length < (G.outN (N + 1) ([], od)).2.length := by
  intro hlt
  have hall : ∀ n, n ≤ N + 1 → (G.outN n ([], od)).1.length = n := by
    intro n
    induction n with
    | zero => intro _; rfl
    | succ n ih =>
      intro hn
      have ih := ih (by omega)
      have hlt' : (G.outN n ([], od)).1.length < (G.outN n ([], od)).2.length := by
        refine Decidable.byContradiction fun hc => ?_
        have := Gr.outN_stay G _ n (N + 1) hc (by omega)
        rw [this] at hlt
        exact hc hlt
      show (G.outStep (G.outN n ([], od))).1.length = n + 1
      unfold Gr.outStep
      rw [if_pos hlt', List.length_append, ih]; rfl
  have h1 := hall (N + 1) (Nat.le_refl _)
  have h2 := (h.outN hG (N + 1)).le
  omega
end

theorem Twin.shape {S : Hp} {rf : List Int} {os : List (Int × List Int)} (h : Twin S rf os) (rs ts : List Int) (hl : rs.length = ts.length) (hr : ∀ k, k < rs.length → RR rf (rs.getD k 0) (ts.getD k 0)) (hn : os.length ≤ S.A.length) :
    S.shape rs = (objGr S.cs os).shapeN (os.length + 1) ts := by
  have hG : ∀ r, (objGr S.cs os).is r = true → 0 ≤ r ∧ r < (os.length : Int) := fun r hr => of_decide_eq_true hr
  rw [gr_shape, shape_sim h.alike (S.A.length + 1) rs ts hl hr]
  unfold Gr.shapeN
  rw [Gr.outN_stay _ _ (os.length + 1) (S.A.length + 1) (outN_done hG (InN.roots hG ts)) (by omega)]

end Go.Proofs.YtneeljhjfmcdoaaDoor
