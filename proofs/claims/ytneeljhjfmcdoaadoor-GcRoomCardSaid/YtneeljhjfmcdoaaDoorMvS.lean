/- The order in which a shape meets objects, in plain Lean: the roots are in it, it is closed, and no more; sums of words. The end of a collection, in plain Lean: the heap that is left, its objects, its shape. -/
import Derived.Test.YtneeljhjfmcdoaaDoorMvL
import Derived.Test.YtneeljhjfmcdoaaDoorTwin
/-! The order in which a shape meets objects, in plain Lean: the roots are in it, it is closed, and no more; sums of words. -/
namespace Go.Proofs.YtneeljhjfmcdoaaDoor

theorem erase_sum (f : Int → Int) (a : Int) : ∀ L : List Int, a ∈ L → (L.map f).sum = f a + ((L.erase a).map f).sum
  | [], h => by simp at h
  | b :: t, h => by
    by_cases hb : b = a
    · subst hb; simp
    · have ht : a ∈ t := by
        rcases List.mem_cons.1 h with e | e
        · exact absurd e.symm hb
        · exact e
      have ih := erase_sum f a t ht
      rw [List.erase_cons_tail (by simpa using hb)]
      simp only [List.map_cons, List.sum_cons, ih]
      omega
theorem mem_perm_le (f : Int → Int) (h0 : ∀ a, 0 ≤ f a) : ∀ (l L : List Int), l.Nodup → (∀ a ∈ l, a ∈ L) → (l.map f).sum ≤ (L.map f).sum
  | [], L, _, _ => by
    have : ∀ L : List Int, 0 ≤ (L.map f).sum := by
      intro L
      induction L with
      | nil => simp
      | cons a t ih => simp only [List.map_cons, List.sum_cons]; have := h0 a; omega
    simpa using this L
  | a :: t, L, hn, hs => by
    rw [List.nodup_cons] at hn
    have ha := hs a (by simp)
    have h1 := mem_perm_le f h0 t (L.erase a) hn.2 (fun b hb => by
      have hne : b ≠ a := fun e => hn.1 (e ▸ hb)
      exact (List.mem_erase_of_ne hne).2 (hs b (by simp [hb])))
    have h2 : (L.map f).sum = f a + ((L.erase a).map f).sum := by
      exact erase_sum f a L ha
    simp only [List.map_cons, List.sum_cons]
    omega
theorem sumW_sum (S : Hp) : ∀ l : List Int, sumW S l = (l.map S.wd).sum
  | [] => by simp [sumW]
  | a :: t => by simp only [sumW, List.map_cons, List.sum_cons, sumW_sum S t]
theorem wd_pos (S : Hp) (a : Int) : 2 ≤ S.wd a := by
  have : 0 ≤ S.num a := unN_nonneg _
  unfold Hp.wd; omega
theorem sumW_le (S : Hp) {l L : List Int} (hn : l.Nodup) (hs : ∀ a ∈ l, a ∈ L) : sumW S l ≤ sumW S L := by
  rw [sumW_sum, sumW_sum]
  exact mem_perm_le _ (fun a => by have := wd_pos S a; omega) l L hn hs
theorem sumW_eq (S : Hp) {l L : List Int} (hn : l.Nodup) (hL : L.Nodup) (h1 : ∀ a ∈ l, a ∈ L) (h2 : ∀ a ∈ L, a ∈ l) : sumW S l = sumW S L := by
  have := sumW_le S hn h1
  have := sumW_le S hL h2
  omega
/-- Objects in a row, apart, between two words. -/
theorem sumW_row (S : Hp) (hi : Int) : ∀ (l : List Int) (lo : Int), l.Pairwise (fun a b => a + 1 + S.num a ≤ b - 1) → (∀ a ∈ l, lo ≤ a - 1 ∧ a + 1 + S.num a ≤ hi) → lo ≤ hi → sumW S l ≤ hi - lo
  | [], lo, _, _, h => by simp only [sumW]; omega
  | a :: t, lo, hp, hb, h => by
    rw [List.pairwise_cons] at hp
    have ha := hb a (by simp)
    have ih := sumW_row S hi t (a + 1 + S.num a) hp.2 (fun b hbt => ⟨hp.1 b hbt, (hb b (by simp [hbt])).2⟩) ha.2
    simp only [sumW, Hp.wd]
    omega
/-- The nursery's objects, rising. -/
def Hp.youngs (S : Hp) : List Int := ((List.range S.A.length).map fun (x : Nat) => (x : Int)).filter fun a => S.inY a
theorem Hp.Ok.lt {S : Hp} (h : S.Ok) {r : Int} (hr : S.is r = true) : 0 ≤ r ∧ r < (S.A.length : Int) := by
  have := h.le hr
  omega
theorem inY_is {S : Hp} {a : Int} (h : S.inY a = true) : S.is a = true ∧ S.y.fr ≤ a - 1 ∧ a - 1 < S.y.top := by
  simp only [Hp.inY, Bool.and_eq_true, decide_eq_true_eq] at h; exact h
theorem inY_end {S : Hp} (hS : S.Ok) {a : Int} (h : S.inY a = true) : a + 1 + S.num a ≤ S.y.top := by
  obtain ⟨h1, h2, h3⟩ := inY_is h
  obtain ⟨hb, h4⟩ := is_bhas h1
  obtain ⟨k, hk, u1, u2⟩ := hS.used _ hb
  have e : (((a - 1).toNat : Nat) : Int) = a - 1 := by omega
  have hn : unN (S.A.getD (a - 1).toNat 0) = S.num a := rfl
  rw [e] at u1 u2
  rw [hn] at u2
  by_cases hk0 : k = 0
  · subst hk0
    have e : (S.sp 0) = S.y := rfl
    rw [e] at u2; omega
  · have hn : 0 ≤ S.num a := unN_nonneg _
    have e : (S.sp 0) = S.y := rfl
    have s0 := hS.sp0 k
    have s1 := hS.sp0 0
    rcases hS.apart (by omega : 0 < 3) hk (fun e => hk0 e.symm) with h5 | h5
    · rw [e] at h5 s1; omega
    · rw [e] at h5 s1; omega
theorem mem_youngs {S : Hp} (hS : S.Ok) {a : Int} : a ∈ S.youngs ↔ S.inY a = true := by
  unfold Hp.youngs
  rw [List.mem_filter, List.mem_map]
  constructor
  · exact fun h => h.2
  · intro h
    refine ⟨⟨a.toNat, ?_, ?_⟩, h⟩
    · have := hS.lt (inY_is h).1
      rw [List.mem_range]; omega
    · have := hS.lt (inY_is h).1
      omega
theorem sum_youngs {S : Hp} (hS : S.Ok) : sumW S S.youngs ≤ S.y.top - S.y.fr := by
  refine sumW_row S S.y.top _ S.y.fr ?_ ?_ hS.y1
  · have h1 : ((List.range S.A.length).map fun (x : Nat) => (x : Int)).Pairwise (· < ·) := by
      rw [List.pairwise_map]
      exact (List.pairwise_lt_range (n := S.A.length)).imp (by intro a b h; omega)
    have h2 : S.youngs.Pairwise (· < ·) := h1.filter _
    refine List.Pairwise.imp_of_mem ?_ h2
    intro a b ha hb hlt
    have ia := (inY_is ((mem_youngs hS).1 ha)).1
    have ib := (inY_is ((mem_youngs hS).1 hb)).1
    have n1 : 0 ≤ S.num a := unN_nonneg _
    have n2 : 0 ≤ S.num b := unN_nonneg _
    rcases objs_apart hS ia ib (by omega) with h3 | h3 <;> omega
  · intro a ha
    have h := (mem_youngs hS).1 ha
    exact ⟨(inY_is h).2.1, inY_end hS h⟩

/-! The order of a shape. -/
def Gr.od (G : Gr) (n : Nat) (rs : List Int) : List Int := (G.outN n ([], (G.roots rs).2)).2
section
variable {G : Gr}
theorem meetO_sub (od : List Int) (r : Int) : ∀ a ∈ od, a ∈ G.meetO od r := by
  intro a ha
  unfold Gr.meetO
  split
  · exact List.mem_append_left _ ha
  · exact ha
theorem meetO_in (od : List Int) {r : Int} (h : G.is r = true) : r ∈ G.meetO od r := by
  unfold Gr.meetO
  split
  · simp
  · rename_i hc
    exact Decidable.byContradiction fun hm => hc ⟨h, hm⟩
theorem meetO_pre (od : List Int) (r : Int) : ∃ t, G.meetO od r = od ++ t := by
  unfold Gr.meetO
  split
  · exact ⟨_, rfl⟩
  · exact ⟨[], by simp⟩
theorem vals_pre (r : Int) (od : List Int) (n : Nat) : ∃ t, (G.vals r od n).2 = od ++ t := by
  induction n with
  | zero => exact ⟨[], by simp [Gr.vals]⟩
  | succ n ih =>
    obtain ⟨t, ht⟩ := ih
    rw [Gr.vals_succ]
    unfold Gr.valStep
    split
    · obtain ⟨t2, h2⟩ := meetO_pre (G := G) (G.vals r od n).2 (G.get r n)
      exact ⟨t ++ t2, by rw [h2, ht, List.append_assoc]⟩
    · exact ⟨t, ht⟩
theorem vals_in (r : Int) (od : List Int) (n : Nat) : ∀ j : Nat, j < n → G.refB r j = true → G.is (G.get r j) = true → G.get r j ∈ (G.vals r od n).2 := by
  induction n with
  | zero => intro j hj; omega
  | succ n ih =>
    intro j hj hb hi
    rw [Gr.vals_succ]
    unfold Gr.valStep
    by_cases hjn : j = n
    · subst hjn
      rw [if_pos hb]
      exact meetO_in _ hi
    · have := ih j (by omega) hb hi
      split
      · exact meetO_sub _ _ _ this
      · exact this
theorem vals_len' (r : Int) (od : List Int) (n : Nat) : (G.vals r od n).1.length = n := by
  induction n with
  | zero => rfl
  | succ n ih =>
    rw [Gr.vals_succ]
    unfold Gr.valStep
    split <;> simp [ih]
theorem outN_pre (n : Nat) (od : List Int) : ∃ t, (G.outN n ([], od)).2 = od ++ t := by
  induction n with
  | zero => exact ⟨[], by simp [Gr.outN]⟩
  | succ n ih =>
    obtain ⟨t, ht⟩ := ih
    show ∃ t, (G.outStep (G.outN n ([], od))).2 = _
    unfold Gr.outStep
    split
    · obtain ⟨t2, h2⟩ := vals_pre (G := G) ((G.outN n ([], od)).2.getD (G.outN n ([], od)).1.length 0) (G.outN n ([], od)).2 (G.num ((G.outN n ([], od)).2.getD (G.outN n ([], od)).1.length 0)).toNat
      exact ⟨t ++ t2, by rw [h2, ht, List.append_assoc]⟩
    · exact ⟨t, ht⟩
/-- Those that are done have their references in the order; each is told by its class and so many values. -/
theorem outN_in (n : Nat) (od : List Int) : ∀ k : Nat, k < (G.outN n ([], od)).1.length → k < (G.outN n ([], od)).2.length ∧
    ((G.outN n ([], od)).1.getD k (0, [])).1 = G.cls ((G.outN n ([], od)).2.getD k 0) ∧ ((G.outN n ([], od)).1.getD k (0, [])).2.length = (G.num ((G.outN n ([], od)).2.getD k 0)).toNat ∧
    ∀ j : Nat, (j : Int) < G.num ((G.outN n ([], od)).2.getD k 0) → G.refB ((G.outN n ([], od)).2.getD k 0) j = true → G.is (G.get ((G.outN n ([], od)).2.getD k 0) j) = true → G.get ((G.outN n ([], od)).2.getD k 0) j ∈ (G.outN n ([], od)).2 := by
  induction n with
  | zero => intro k hk; simp [Gr.outN] at hk
  | succ n ih =>
    show ∀ k : Nat, k < (G.outStep (G.outN n ([], od))).1.length → _
    intro k
    show _ → k < (G.outStep (G.outN n ([], od))).2.length ∧ ((G.outStep (G.outN n ([], od))).1.getD k (0, [])).1 = G.cls ((G.outStep (G.outN n ([], od))).2.getD k 0) ∧ ((G.outStep (G.outN n ([], od))).1.getD k (0, [])).2.length = (G.num ((G.outStep (G.outN n ([], od))).2.getD k 0)).toNat ∧
      ∀ j : Nat, (j : Int) < G.num ((G.outStep (G.outN n ([], od))).2.getD k 0) → G.refB ((G.outStep (G.outN n ([], od))).2.getD k 0) j = true → G.is (G.get ((G.outStep (G.outN n ([], od))).2.getD k 0) j) = true → G.get ((G.outStep (G.outN n ([], od))).2.getD k 0) j ∈ (G.outStep (G.outN n ([], od))).2
    generalize G.outN n ([], od) = s at ih ⊢
    obtain ⟨o, d⟩ := s
    simp only at ih
    by_cases hlt : o.length < d.length
    · have hs : G.outStep (o, d) = (o ++ [(G.cls (d.getD o.length 0), (G.vals (d.getD o.length 0) d (G.num (d.getD o.length 0)).toNat).1)], (G.vals (d.getD o.length 0) d (G.num (d.getD o.length 0)).toNat).2) := by
        unfold Gr.outStep; rw [if_pos hlt]
      rw [hs]
      simp only
      obtain ⟨t, ht⟩ := vals_pre (G := G) (d.getD o.length 0) d (G.num (d.getD o.length 0)).toNat
      have hin := vals_in (G := G) (d.getD o.length 0) d (G.num (d.getD o.length 0)).toNat
      have hvl := vals_len' (G := G) (d.getD o.length 0) d (G.num (d.getD o.length 0)).toNat
      rw [ht] at hin ⊢
      intro hk
      rw [List.length_append, List.length_singleton] at hk
      have hget : (d ++ t).getD k 0 = d.getD k 0 := by
        simp only [List.getD_eq_getElem?_getD]
        rw [List.getElem?_append_left (by omega)]
      rw [hget]
      by_cases hko : k = o.length
      · subst hko
        have h0 : (o ++ [(G.cls (d.getD o.length 0), (G.vals (d.getD o.length 0) d (G.num (d.getD o.length 0)).toNat).1)]).getD o.length (0, []) = (G.cls (d.getD o.length 0), (G.vals (d.getD o.length 0) d (G.num (d.getD o.length 0)).toNat).1) := by
          simp [List.getD_eq_getElem?_getD]
        rw [h0]
        refine ⟨by rw [List.length_append]; omega, rfl, hvl, fun j hj hb hi => hin j (by omega) hb hi⟩
      · have h0 : ∀ x, (o ++ [x]).getD k (0, []) = o.getD k (0, []) := by
          intro x
          simp only [List.getD_eq_getElem?_getD]
          rw [List.getElem?_append_left (by omega)]
        rw [h0]
        obtain ⟨i1, i2, i3, i4⟩ := ih k (by omega)
        exact ⟨by rw [List.length_append]; omega, i2, i3, fun j hj hb hi => List.mem_append_left _ (i4 j hj hb hi)⟩
    · have hs : G.outStep (o, d) = (o, d) := by unfold Gr.outStep; rw [if_neg hlt]
      rw [hs]
      exact ih k
theorem outN_le (n : Nat) (od : List Int) : (G.outN n ([], od)).1.length ≤ (G.outN n ([], od)).2.length := by
  refine Decidable.byContradiction fun h => ?_
  have := (outN_in (G := G) n od ((G.outN n ([], od)).2.length) (by omega)).1
  omega
theorem roots_in (rs : List Int) : ∀ r ∈ rs, G.is r = true → r ∈ (G.roots rs).2 := by
  have pre : ∀ (l : List Int) (s : List Int × List Int), ∃ t, (l.foldl G.rootStep s).2 = s.2 ++ t := by
    intro l
    induction l with
    | nil => intro s; exact ⟨[], by simp⟩
    | cons a l ih =>
      intro s
      obtain ⟨t, ht⟩ := ih (G.rootStep s a)
      obtain ⟨t2, h2⟩ := meetO_pre (G := G) s.2 a
      exact ⟨t2 ++ t, by rw [List.foldl_cons, ht]; show G.meetO s.2 a ++ t = _; rw [h2, List.append_assoc]⟩
  have : ∀ (l : List Int) (s : List Int × List Int), ∀ r ∈ l, G.is r = true → r ∈ (l.foldl G.rootStep s).2 := by
    intro l
    induction l with
    | nil => intro s r hr; simp at hr
    | cons a l ih =>
      intro s r hr hi
      rw [List.foldl_cons]
      rcases List.mem_cons.1 hr with rfl | hr
      · obtain ⟨t, ht⟩ := pre l (G.rootStep s r)
        rw [ht]
        exact List.mem_append_left _ (meetO_in _ hi)
      · exact ih _ r hr hi
  exact this rs _
/-- No more than what is closed. -/
theorem meetO_all {P : Int → Prop} {od : List Int} (h : ∀ a ∈ od, P a) {r : Int} (hr : G.is r = true → P r) : ∀ a ∈ G.meetO od r, P a := by
  intro a ha
  unfold Gr.meetO at ha
  split at ha
  · rename_i hc
    rcases List.mem_append.1 ha with ha | ha
    · exact h a ha
    · simp at ha; subst ha; exact hr hc.1
  · exact h a ha
theorem vals_all {P : Int → Prop} {od : List Int} (h : ∀ a ∈ od, P a) (r : Int) (n : Nat) (hr : ∀ j : Nat, j < n → G.refB r j = true → G.is (G.get r j) = true → P (G.get r j)) : ∀ a ∈ (G.vals r od n).2, P a := by
  induction n with
  | zero => exact h
  | succ n ih =>
    rw [Gr.vals_succ]
    unfold Gr.valStep
    have ih := ih (fun j hj => hr j (by omega))
    split
    · rename_i hb
      exact meetO_all ih (fun hi => hr n (by omega) hb hi)
    · exact ih
theorem outN_all {P : Int → Prop} {od : List Int} (h : ∀ a ∈ od, P a) (hc : ∀ a, P a → ∀ j : Nat, (j : Int) < G.num a → G.refB a j = true → G.is (G.get a j) = true → P (G.get a j)) (n : Nat) : ∀ a ∈ (G.outN n ([], od)).2, P a := by
  induction n with
  | zero => exact h
  | succ n ih =>
    show ∀ a ∈ (G.outStep (G.outN n ([], od))).2, P a
    unfold Gr.outStep
    split
    · rename_i hlt
      have hm : P ((G.outN n ([], od)).2.getD (G.outN n ([], od)).1.length 0) := ih _ (by
        rw [List.getD_eq_getElem?_getD, List.getElem?_eq_getElem hlt]
        exact List.getElem_mem hlt)
      exact vals_all ih _ _ (fun j hj hb hi => hc _ hm j (by omega) hb hi)
    · exact ih
theorem roots_all {P : Int → Prop} (rs : List Int) (h : ∀ r ∈ rs, G.is r = true → P r) : ∀ a ∈ (G.roots rs).2, P a := by
  have : ∀ (l : List Int) (s : List Int × List Int), (∀ a ∈ s.2, P a) → (∀ r ∈ l, G.is r = true → P r) → ∀ a ∈ (l.foldl G.rootStep s).2, P a := by
    intro l
    induction l with
    | nil => intro s h _; exact h
    | cons a l ih =>
      intro s h h2
      rw [List.foldl_cons]
      exact ih _ (meetO_all h (h2 a (by simp))) (fun r hr => h2 r (by simp [hr]))
  exact this rs _ (by simp) h
end

/-- The objects that can be reached. -/
def Hp.reach (S : Hp) (rs : List Int) : List Int := S.gr.od (S.A.length + 1) rs
section
variable {S : Hp} (hS : S.Ok)
include hS
theorem reach_inN (rs : List Int) : InN S.A.length (S.reach rs) := InN.outN (fun _ hr => hS.lt hr) (InN.roots (fun _ hr => hS.lt hr) rs) _
omit hS in
theorem reach_root {rs : List Int} {r : Int} (hr : r ∈ rs) (hi : S.is r = true) : r ∈ S.reach rs := by
  obtain ⟨t, ht⟩ := outN_pre (G := S.gr) (S.A.length + 1) (S.gr.roots rs).2
  unfold Hp.reach Gr.od
  rw [ht]
  exact List.mem_append_left _ (roots_in (G := S.gr) rs r hr hi)
theorem reach_len (rs : List Int) : (S.shape rs).1.length = (S.reach rs).length := by
  rw [gr_shape]
  have h1 := outN_done (G := S.gr) (fun _ hr => hS.lt hr) (InN.roots (G := S.gr) (fun _ hr => hS.lt hr) rs)
  have h2 := outN_le (G := S.gr) (S.A.length + 1) (S.gr.roots rs).2
  unfold Hp.reach Gr.od Gr.shapeN
  dsimp only
  omega
theorem reach_closed {rs : List Int} {a : Int} (ha : a ∈ S.reach rs) (j : Nat) (hj : (j : Int) < S.num a) (hb : S.refB a j = true) (hi : S.is (S.get a j) = true) : S.get a j ∈ S.reach rs := by
  obtain ⟨k, hk, e⟩ := List.mem_iff_getElem.1 ha
  have h1 := reach_len hS rs
  rw [gr_shape] at h1
  unfold Gr.shapeN at h1
  dsimp only at h1
  have h2 := (outN_in (G := S.gr) (S.A.length + 1) (S.gr.roots rs).2 k (by omega)).2.2.2
  have e2 : (S.gr.outN (S.A.length + 1) ([], (S.gr.roots rs).2)).2.getD k 0 = a := by
    show (S.reach rs).getD k 0 = a
    rw [List.getD_eq_getElem?_getD, List.getElem?_eq_getElem hk]
    exact e
  rw [e2] at h2
  exact h2 j hj hb hi
omit hS in
theorem reach_all {P : Int → Prop} {rs : List Int} (h : ∀ r ∈ rs, S.is r = true → P r) (hc : ∀ a, P a → ∀ j : Nat, (j : Int) < S.num a → S.refB a j = true → S.is (S.get a j) = true → P (S.get a j)) : ∀ a ∈ S.reach rs, P a :=
  outN_all (G := S.gr) (roots_all (G := S.gr) rs h) hc _
/-- The words of a shape: those of what can be reached. -/
def wordsO : List (Int × List Int) → Int
  | [] => 0
  | o :: t => 2 + (o.2.length : Int) + wordsO t
omit hS in
theorem wordsO_app : ∀ a b : List (Int × List Int), wordsO (a ++ b) = wordsO a + wordsO b
  | [], b => by simp [wordsO]
  | x :: t, b => by simp only [List.cons_append, wordsO, wordsO_app t b]; omega
theorem words_reach (rs : List Int) : wordsO (S.shape rs).1 = sumW S (S.reach rs) := by
  have h1 := reach_len hS rs
  have h2 : ∀ k, k < (S.shape rs).1.length → ((S.shape rs).1.getD k (0, [])).2.length = (S.num ((S.reach rs).getD k 0)).toNat := by
    intro k hk
    rw [gr_shape] at hk ⊢
    exact (outN_in (G := S.gr) (S.A.length + 1) (S.gr.roots rs).2 k hk).2.2.1
  generalize (S.shape rs).1 = o at h1 h2
  generalize S.reach rs = d at h1 h2
  clear hS
  induction o generalizing d with
  | nil =>
    cases d with
    | nil => rfl
    | cons a t => simp at h1
  | cons x t ih =>
    cases d with
    | nil => simp at h1
    | cons a d =>
      have h3 := h2 0 (by simp)
      have ih := ih d (by simpa using h1) (fun k hk => by
        have := h2 (k + 1) (by simpa using hk)
        simpa using this)
      have hn : 0 ≤ S.num a := unN_nonneg _
      simp only [List.getD_cons_zero] at h3
      simp only [wordsO, sumW, Hp.wd, ih, h3]
      omega
end
end Go.Proofs.YtneeljhjfmcdoaaDoor

/-! The end of a collection, in plain Lean: the heap that is left, its objects, its shape. -/
namespace Go.Proofs.YtneeljhjfmcdoaaDoor

def Hp.Tight (S : Hp) : Prop := ∀ r, S.is r = true → ∀ j : Nat, (j : Int) < S.num r → S.refB r j = true → S.get r j = 0 ∨ S.is (S.get r j) = true
def Hp.Barr (S : Hp) : Prop := ∀ r, S.is r = true → S.inY r = false → ∀ j : Nat, (j : Int) < S.num r → S.refB r j = true → S.inY (S.get r j) = true → bhas S.mr (r - 1).toNat = true
def Hp.MkOk (S : Hp) : Prop := ∀ x : Nat, bhas S.mr x = true → S.is ((x : Int) + 1) = true ∧ S.inY ((x : Int) + 1) = false
/-- The half that is not used is empty. -/
def Hp.Half (S : Hp) : Prop := (S.sp (3 - S.oldK)).top = (S.sp (3 - S.oldK)).fr

/-- Space k behind a collection. -/
def Cx.spE (X : Cx) (M : Mv) (k : Nat) : Spc := if k = X.tk then { X.S.sp k with top := M.top } else if k = 0 ∨ X.all = true then { X.S.sp k with top := (X.S.sp k).fr } else X.S.sp k
def Cx.after (X : Cx) (M : Mv) (bg mr : List Nat) : Hp :=
  { cs := X.S.cs, A := M.A, y := X.spE M 0, h0 := X.spE M 1, h1 := X.spE M 2, now := if X.all then 1 - X.S.now else X.S.now, bg := bg, mr := mr }
theorem after_sp (X : Cx) (M : Mv) (bg mr : List Nat) (k : Nat) (hk : k < 3) : (X.after M bg mr).sp k = X.spE M k := by
  match k, hk with
  | 0, _ => rfl
  | 1, _ => rfl
  | 2, _ => rfl

theorem not_inY {S : Hp} (hS : S.Ok) {a : Int} (h : S.is a = true) (hn : S.inY a = false) : ∃ k, k < 3 ∧ k ≠ 0 ∧ (S.sp k).fr ≤ a - 1 ∧ a + 1 + S.num a ≤ (S.sp k).top := by
  obtain ⟨hb, h1⟩ := is_bhas h
  obtain ⟨k, hk, u1, u2⟩ := hS.used _ hb
  have e : (((a - 1).toNat : Nat) : Int) = a - 1 := by omega
  have hnn : unN (S.A.getD (a - 1).toNat 0) = S.num a := rfl
  rw [e] at u1 u2
  rw [hnn] at u2
  refine ⟨k, hk, ?_, u1, by omega⟩
  rintro rfl
  have e0 : S.sp 0 = S.y := rfl
  rw [e0] at u1 u2
  have n0 : 0 ≤ S.num a := unN_nonneg _
  unfold Hp.inY at hn
  rw [h, decide_eq_true (by omega)] at hn
  cases hn

/-- What holds at the end. -/
structure Cx.End (X : Cx) (Lv : List Int) (sc : Int → Nat → Bool) (M : Mv) (bg : List Nat) : Prop where
  ok : X.Ok
  m : M.Ok X Lv sc
  full : ∀ a b, (a, b) ∈ M.mv → ∀ j : Nat, (j : Int) < X.S.num a → sc b j = true
  bg : ∀ x : Nat, bhas bg x = true ↔ (bhas X.S.bg x = true ∧ X.frm ((x : Int) + 1) = false) ∨ ∃ a, (a, (x : Int) + 1) ∈ M.mv
  tk : X.tk = if X.all = true then 3 - X.S.oldK else X.S.oldK

section
variable {X : Cx} {Lv : List Int} {sc : Int → Nat → Bool} {M : Mv} {bg mr : List Nat}
theorem after_is (h : X.End Lv sc M bg) (r : Int) : (X.after M bg mr).is r = true ↔ ∃ a, M.Img X a r := by
  have e : (X.after M bg mr).is r = (decide (1 ≤ r) && bhas bg (r - 1).toNat) := rfl
  rw [e, Bool.and_eq_true, decide_eq_true_eq, h.bg]
  constructor
  · rintro ⟨h1, h2⟩
    have e1 : (((r - 1).toNat : Nat) : Int) + 1 = r := by omega
    rw [e1] at h2
    rcases h2 with ⟨h2, h3⟩ | ⟨a, h2⟩
    · exact ⟨r, .inr ⟨by unfold Hp.is; rw [decide_eq_true h1, h2]; rfl, h3, rfl⟩⟩
    · exact ⟨a, .inl h2⟩
  · rintro ⟨a, hi⟩
    have hp := h.m.place h.ok hi
    have e1 : (((r - 1).toNat : Nat) : Int) + 1 = r := by omega
    rw [e1]
    refine ⟨hp.2.1, ?_⟩
    rcases hi with h2 | ⟨h2, h3, rfl⟩
    · exact .inr ⟨a, h2⟩
    · exact .inl ⟨(is_bhas h2).1, h3⟩
theorem after_head (h : X.End Lv sc M bg) {a b : Int} (hi : M.Img X a b) : (X.after M bg mr).cls b = X.S.cls a ∧ (X.after M bg mr).num b = X.S.num a := by
  have h1 := (h.m.img a b hi).1
  have e1 : (X.after M bg mr).cls b = unC (M.A.getD (b - 1).toNat 0) := rfl
  have e2 : (X.after M bg mr).num b = unN (M.A.getD (b - 1).toNat 0) := rfl
  rw [e1, e2, h1]
  exact ⟨rfl, rfl⟩
theorem after_refB (h : X.End Lv sc M bg) {a b : Int} (hi : M.Img X a b) (j : Int) : (X.after M bg mr).refB b j = X.S.refB a j := by
  have h1 := after_head (mr := mr) h hi
  have h2 := (after_is (mr := mr) h b).2 ⟨a, hi⟩
  have h3 := (h.m.place h.ok hi).1
  unfold Hp.refB
  rw [h1.1, h1.2, h2, h3]
  rfl
theorem after_get (h : X.End Lv sc M bg) {a b : Int} (hi : M.Img X a b) (j : Nat) (hj : (j : Int) < X.S.num a) :
    (X.after M bg mr).get b j = if (sc b j && X.S.refB a j) = true then fwL M.mv (X.S.get a j) else X.S.get a j := (h.m.img a b hi).2.2 j hj

theorem tk_cases (h : X.End Lv sc M bg) : X.tk = 1 ∨ X.tk = 2 := by
  have := h.tk
  unfold Hp.oldK at this
  split at this <;> split at this <;> omega
theorem sum_pos (S : Hp) : ∀ l : List Int, 0 ≤ sumW S l
  | [] => Int.le_refl _
  | a :: t => by have := wd_pos S a; have := sum_pos S t; simp only [sumW]; omega

theorem spE_bd (h : X.End Lv sc M bg) (k : Nat) : (X.spE M k).fr = (X.S.sp k).fr ∧ (X.spE M k).to = (X.S.sp k).to ∧ (X.S.sp k).fr ≤ (X.spE M k).top ∧ (X.spE M k).top ≤ (X.S.sp k).to := by
  have h1 := h.ok.ok.sp0 k
  have h2 := h.m.tp
  have h3 := h.m.low
  unfold Cx.spE
  by_cases hk : k = X.tk
  · subst hk
    rw [if_pos rfl]
    unfold Cx.T0 at h3
    unfold Cx.tp at h2
    exact ⟨rfl, rfl, by show _ ≤ M.top; omega, h2⟩
  · rw [if_neg hk]
    split
    · exact ⟨rfl, rfl, Int.le_refl _, by show (X.S.sp k).fr ≤ _; omega⟩
    · exact ⟨rfl, rfl, h1.2.1, h1.2.2.1⟩

theorem after_ok (h : X.End Lv sc M bg) : (X.after M bg mr).Ok := by
  have hS := h.ok.ok
  have b0 := spE_bd h 0
  have b1 := spE_bd h 1
  have b2 := spE_bd h 2
  have bimg : ∀ x : Nat, bhas bg x = true → ∃ a, M.Img X a ((x : Int) + 1) := fun x hx => (after_is (mr := mr) h _).1 (by
    unfold Hp.is
    rw [decide_eq_true (by omega), show ((x : Int) + 1 - 1).toNat = x by omega]
    exact hx)
  have head : ∀ {x : Nat} {a : Int}, M.Img X a ((x : Int) + 1) → M.A.getD x 0 = X.S.A.getD (a - 1).toNat 0 := by
    intro x a hi
    have := (h.m.img _ _ hi).1
    rwa [show ((x : Int) + 1 - 1).toNat = x by omega] at this
  refine ⟨by show M.A.length ≤ _; rw [h.m.len]; exact hS.len, hS.few, hS.small, ?_, ?_, ?_, ?_, ?_, ?_, ?_, ?_, ?_, ?_, ?_, ?_, ?_, ?_⟩
  · show (if X.all = true then 1 - X.S.now else X.S.now) = 0 ∨ (if X.all = true then 1 - X.S.now else X.S.now) = 1
    rcases hS.now with e | e <;> rw [e] <;> cases X.all <;> simp
  · show 0 ≤ (X.spE M 0).fr
    rw [b0.1]; exact hS.y0
  · show (X.spE M 0).fr ≤ (X.spE M 0).top
    rw [b0.1]; exact b0.2.2.1
  · show (X.spE M 0).top ≤ (X.spE M 0).to
    rw [b0.2.1]; exact b0.2.2.2
  · show (X.spE M 0).to ≤ (X.spE M 1).fr
    rw [b0.2.1, b1.1]; exact hS.a0
  · show (X.spE M 1).fr ≤ (X.spE M 1).top
    rw [b1.1]; exact b1.2.2.1
  · show (X.spE M 1).top ≤ (X.spE M 1).to
    rw [b1.2.1]; exact b1.2.2.2
  · show (X.spE M 1).to ≤ (X.spE M 2).fr
    rw [b1.2.1, b2.1]; exact hS.b0
  · show (X.spE M 2).fr ≤ (X.spE M 2).top
    rw [b2.1]; exact b2.2.2.1
  · show (X.spE M 2).top ≤ (X.spE M 2).to
    rw [b2.2.1]; exact b2.2.2.2
  · show (X.spE M 2).to ≤ (M.A.length : Int)
    rw [b2.2.1, h.m.len]; exact hS.b3
  · intro x hx
    obtain ⟨a, hi⟩ := bimg x hx
    have hp := h.m.place h.ok hi
    have e := head hi
    obtain ⟨q1, q2, q3, q4⟩ := hS.heads _ (is_bhas hp.1).1
    show headOk (M.A.getD x 0) ∧ unC (M.A.getD x 0) < X.S.cs.length ∧ (0 ≤ unC (M.A.getD x 0) → unN (M.A.getD x 0) = (X.S.cs.getD (unC (M.A.getD x 0)).toNat ByteArray.empty).size) ∧ (x : Int) + 2 + unN (M.A.getD x 0) ≤ M.A.length
    rw [e]
    refine ⟨q1, q2, q3, ?_⟩
    have := hp.2.2
    have e2 : X.S.num a = unN (X.S.A.getD (a - 1).toNat 0) := rfl
    omega
  · intro x hx
    obtain ⟨a, hi⟩ := bimg x hx
    have e := head hi
    show ∃ k, k < 3 ∧ ((X.after M bg mr).sp k).fr ≤ (x : Int) ∧ (x : Int) + 2 + unN (M.A.getD x 0) ≤ ((X.after M bg mr).sp k).top
    rw [e]
    have e2 : X.S.num a = unN (X.S.A.getD (a - 1).toNat 0) := rfl
    rw [← e2]
    rcases hi with hm | ⟨ha, hf, hax⟩
    · have hb := h.m.bd _ _ hm
      have hk3 := h.ok.k3
      refine ⟨X.tk, hk3, ?_⟩
      rw [after_sp _ _ _ _ _ hk3]
      have t0 := hS.sp0 X.tk
      unfold Cx.spE
      rw [if_pos rfl]
      unfold Cx.T0 at hb
      exact ⟨by show (X.S.sp X.tk).fr ≤ _; omega, by show _ ≤ M.top; omega⟩
    · unfold Cx.frm at hf
      rw [ha, Bool.true_and, Bool.or_eq_false_iff] at hf
      obtain ⟨k, hk, hk0, u1, u2⟩ := not_inY hS ha hf.2
      refine ⟨k, hk, ?_⟩
      rw [after_sp _ _ _ _ _ hk]
      unfold Cx.spE
      by_cases hkt : k = X.tk
      · rw [if_pos hkt]
        have := h.m.low
        unfold Cx.T0 at this
        rw [← hkt] at this
        exact ⟨by show (X.S.sp k).fr ≤ _; omega, by show _ ≤ M.top; omega⟩
      · rw [if_neg hkt, if_neg (by rw [hf.1]; simp [hk0])]
        exact ⟨by omega, by omega⟩
  · intro x y hx hy hlt
    obtain ⟨a, hi⟩ := bimg x hx
    obtain ⟨b, hj⟩ := bimg y hy
    show (x : Int) + 2 + unN (M.A.getD x 0) ≤ (y : Int)
    rw [head hi]
    have e2 : X.S.num a = unN (X.S.A.getD (a - 1).toNat 0) := rfl
    rw [← e2]
    have n1 : 0 ≤ X.S.num b := unN_nonneg _
    rcases h.m.apart h.ok hi hj (by omega) with h3 | h3 <;> omega
theorem after_zero (h : X.End Lv sc M bg) : (X.after M bg mr).Zero := by
  intro r hr
  obtain ⟨a, hi⟩ := (after_is h r).1 hr
  exact (h.m.img a r hi).2.1
theorem after_wide (h : X.End Lv sc M bg) : (X.after M bg mr).Wide := h.m.wide
theorem after_young (h : X.End Lv sc M bg) (r : Int) : (X.after M bg mr).inY r = false := by
  have e : (X.after M bg mr).y = X.spE M 0 := rfl
  have h0 := h.ok.k0
  have e2 : X.spE M 0 = { X.S.sp 0 with top := (X.S.sp 0).fr } := by
    unfold Cx.spE
    rw [if_neg (fun e => h0 e.symm), if_pos (.inl rfl)]
  unfold Hp.inY
  rw [e, e2, Bool.and_eq_false_iff]
  right
  rw [decide_eq_false_iff_not]
  intro hc
  have h1 := hc.1
  have h2 := hc.2
  simp only at h1 h2
  omega
theorem after_half (h : X.End Lv sc M bg) (hh : X.all = false → X.S.Half) : (X.after M bg mr).Half := by
  have htk := h.tk
  have hok := h.ok.ok.now
  unfold Hp.Half
  have e : (X.after M bg mr).oldK = X.tk := by
    unfold Hp.oldK
    show (if (if X.all = true then 1 - X.S.now else X.S.now) = 0 then 1 else 2) = X.tk
    rw [htk]
    unfold Hp.oldK
    rcases hok with e | e <;> rw [e] <;> cases X.all <;> simp
  have hc := tk_cases h
  rw [e, after_sp _ _ _ _ _ (by omega)]
  unfold Cx.spE
  rw [if_neg (by omega)]
  cases ha : X.all with
  | true => rw [if_pos (.inr rfl)]
  | false =>
    rw [if_neg (by simp; omega)]
    have h1 := hh ha
    unfold Hp.Half at h1
    rw [ha] at htk
    simp only [Bool.false_eq_true, if_false] at htk
    rw [htk]; exact h1

/-- What a number has become. -/
def Mv.Rel (X : Cx) (M : Mv) (a b : Int) : Prop := (a = 0 ∧ b = 0) ∨ M.Img X a b
theorem rel_fw (h : X.End Lv sc M bg) {v : Int} (h0 : v = 0 ∨ X.S.is v = true) (hm : X.frm v = true → v ∈ M.mv.map Prod.fst) : M.Rel X v (fwL M.mv v) := by
  have nfw : X.frm v = false → fwL M.mv v = v := fun hf => fwL_not (fun hmem => by
    obtain ⟨p, hp, e⟩ := List.mem_map.1 hmem
    have := (h.m.frm p.1 p.2 hp).1
    rw [e, hf] at this; cases this)
  cases hf : X.frm v with
  | true => exact .inr (.inl (fwL_some (hm hf)))
  | false =>
    rw [nfw hf]
    rcases h0 with h0 | h0
    · exact .inl ⟨h0, h0⟩
    · exact .inr (.inr ⟨h0, hf, rfl⟩)
/-- A reference of an object that is left. -/
theorem after_ref (h : X.End Lv sc M bg) (ht : X.S.Tight) (hb : X.all = false → X.S.Barr) (hsc : X.all = false → ∀ r, X.S.is r = true → bhas X.S.mr (r - 1).toNat = true → ∀ j : Nat, (j : Int) < X.S.num r → sc r j = true)
    {a b : Int} (hi : M.Img X a b) (j : Nat) (hj : (j : Int) < X.S.num a) (hr : X.S.refB a j = true) : M.Rel X (X.S.get a j) ((X.after M bg mr).get b j) := by
  have ha := (h.m.place h.ok hi).1
  have hv := ht a ha j hj hr
  rw [after_get h hi j hj, hr, Bool.and_true]
  by_cases hs : sc b j = true
  · rw [if_pos hs]
    exact rel_fw h hv (fun hf => h.m.scm a b hi j hj hs hr hf)
  · rw [if_neg hs]
    rcases hi with hm | ⟨_, hf, rfl⟩
    · exact absurd (h.full a b hm j hj) hs
    · have hf2 := hf
      unfold Cx.frm at hf2
      rw [ha, Bool.true_and, Bool.or_eq_false_iff] at hf2
      have hnv : X.frm (X.S.get a j) = false := by
        cases hfv : X.frm (X.S.get a j) with
        | false => rfl
        | true =>
          exfalso
          unfold Cx.frm at hfv
          rw [Bool.and_eq_true, hf2.1, Bool.false_or] at hfv
          exact hs (hsc hf2.1 a ha (hb hf2.1 a ha hf2.2 j hj hr hfv.2) j hj)
      rcases hv with h0 | h0
      · exact .inl ⟨h0, h0⟩
      · exact .inr (.inr ⟨h0, hnv, rfl⟩)
theorem img_one (h : X.End Lv sc M bg) {a b d : Int} (h1 : M.Img X a b) (h2 : M.Img X a d) : b = d := by
  have mix : ∀ {b d : Int}, (a, b) ∈ M.mv → X.frm a = false → b = d := fun k1 k2 => by
    have := (h.m.frm _ _ k1).1
    rw [k2] at this; cases this
  rcases h1 with k1 | ⟨p1, q1, e1⟩ <;> rcases h2 with k2 | ⟨p2, q2, e2⟩
  · rw [← fwL_mem h.m.nd k1, ← fwL_mem h.m.nd k2]
  · exact mix k1 q2
  · exact (mix k2 q1).symm
  · rw [← e1, ← e2]
theorem after_alike (h : X.End Lv sc M bg) (ht : X.S.Tight) (hb : X.all = false → X.S.Barr) (hsc : X.all = false → ∀ r, X.S.is r = true → bhas X.S.mr (r - 1).toNat = true → ∀ j : Nat, (j : Int) < X.S.num r → sc r j = true) :
    Alike X.S.gr (X.after M bg mr).gr (M.Rel X) := by
  have img : ∀ a b, M.Rel X a b → X.S.gr.is a = true → M.Img X a b := by
    rintro a b (⟨rfl, _⟩ | hi) h2
    · have := is_zero X.S
      have h2 : X.S.is 0 = true := h2
      rw [this] at h2; cases h2
    · exact hi
  refine ⟨?_, ?_, ?_, ?_, ?_, ?_, ?_⟩
  · rintro a b (⟨rfl, rfl⟩ | hi)
    · show X.S.is 0 = (X.after M bg mr).is 0
      rw [is_zero, is_zero]
    · show X.S.is a = (X.after M bg mr).is b
      rw [(h.m.place h.ok hi).1, (after_is h b).2 ⟨a, hi⟩]
  · intro a b hr ha
    exact (after_head h (img a b hr ha)).1.symm
  · intro a b hr ha
    exact (after_head h (img a b hr ha)).2.symm
  · intro a b hr ha j hj
    exact (after_refB h (img a b hr ha) j).symm
  · intro a b hr ha j hj hf
    have hf : X.S.refB a j = false := hf
    show X.S.get a j = (X.after M bg mr).get b j
    rw [after_get h (img a b hr ha) j hj, hf, Bool.and_false, if_neg (by simp)]
  · intro a b hr ha j hj hf
    exact after_ref h ht hb hsc (img a b hr ha) j hj hf
  · intro a b c d hr hr2 ha hc
    have i1 := img a b hr ha
    have i2 := img c d hr2 hc
    constructor
    · rintro rfl; exact img_one h i1 i2
    · rintro rfl; exact h.m.inj h.ok i1 i2
theorem after_tight (h : X.End Lv sc M bg) (ht : X.S.Tight) (hb : X.all = false → X.S.Barr) (hsc : X.all = false → ∀ r, X.S.is r = true → bhas X.S.mr (r - 1).toNat = true → ∀ j : Nat, (j : Int) < X.S.num r → sc r j = true) : (X.after M bg mr).Tight := by
  intro r hr j hj hf
  obtain ⟨a, hi⟩ := (after_is h r).1 hr
  rw [(after_head h hi).2] at hj
  rw [after_refB h hi] at hf
  rcases after_ref (mr := mr) h ht hb hsc hi j hj hf with ⟨_, h0⟩ | h1
  · exact .inl h0
  · exact .inr ((after_is h _).2 ⟨_, h1⟩)
theorem after_barr (h : X.End Lv sc M bg) : (X.after M bg mr).Barr := by
  intro r _ _ j _ _ hy
  rw [after_young h] at hy; cases hy
/-- The shape is what it was. -/
theorem after_shape (h : X.End Lv sc M bg) (ht : X.S.Tight) (hb : X.all = false → X.S.Barr) (hsc : X.all = false → ∀ r, X.S.is r = true → bhas X.S.mr (r - 1).toNat = true → ∀ j : Nat, (j : Int) < X.S.num r → sc r j = true)
    (rs : List Int) (hr : ∀ r ∈ rs, (r = 0 ∨ X.S.is r = true) ∧ (X.frm r = true → r ∈ M.mv.map Prod.fst)) : (X.after M bg mr).shape (rs.map (fwL M.mv)) = X.S.shape rs := by
  rw [gr_shape, gr_shape]
  have e : (X.after M bg mr).A.length = X.S.A.length := h.m.len
  rw [e]
  exact (shape_sim (after_alike h ht hb hsc) _ rs _ (by simp) (fun k hk => by
    have hm : rs.getD k 0 ∈ rs := by rw [List.getD_eq_getElem?_getD, List.getElem?_eq_getElem hk]; exact List.getElem_mem hk
    have e2 : (rs.map (fwL M.mv)).getD k 0 = fwL M.mv (rs.getD k 0) := by
      simp only [List.getD_eq_getElem?_getD, List.getElem?_map, List.getElem?_eq_getElem hk]; rfl
    rw [e2]
    exact rel_fw h (hr _ hm).1 (hr _ hm).2)).symm
end
end Go.Proofs.YtneeljhjfmcdoaaDoor
