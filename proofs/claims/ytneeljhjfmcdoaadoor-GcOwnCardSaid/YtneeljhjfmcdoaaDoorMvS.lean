/- The order in which a shape meets objects, in plain Lean: the roots are in it, it is closed, and no more; sums of words. -/
import Derived.Test.YtneeljhjfmcdoaaDoorMvL
import Derived.Test.YtneeljhjfmcdoaaDoorTwin2
namespace Go.Proofs.YtneeljhjfmcdoaaDoor

theorem erase_sum (f : Int → Int) (a : Int) : ∀ L : List Int, a ∈ L → (L.map f).sum = f a + ((L.erase a).map f).sum
  | [], h => by simp at h
  | b :: t, h => by
    by_cases hb : b = a
    · subst hb; simp
    · have ht : a ∈ t := by
        rcases List.mem_cons.1 h with e | e
        · exact absurd e.symm hb
        · exact e
      have ih := erase_sum f a t ht
      rw [List.erase_cons_tail (by simpa using hb)]
      simp only [List.map_cons, List.sum_cons, ih]
      omega
theorem mem_perm_le (f : Int → Int) (h0 : ∀ a, 0 ≤ f a) : ∀ (l L : List Int), l.Nodup → (∀ a ∈ l, a ∈ L) → (l.map f).sum ≤ (L.map f).sum
  | [], L, _, _ => by
    have : ∀ L : List Int, 0 ≤ (L.map f).sum := by
      intro L
      induction L with
      | nil => simp
      | cons a t ih => simp only [List.map_cons, List.sum_cons]; have := h0 a; omega
    simpa using this L
  | a :: t, L, hn, hs => by
    rw [List.nodup_cons] at hn
    have ha := hs a (by simp)
    have h1 := mem_perm_le f h0 t (L.erase a) hn.2 (fun b hb => by
      have hne : b ≠ a := fun e => hn.1 (e ▸ hb)
      exact (List.mem_erase_of_ne hne).2 (hs b (by simp [hb])))
    have h2 : (L.map f).sum = f a + ((L.erase a).map f).sum := by
      exact erase_sum f a L ha
    simp only [List.map_cons, List.sum_cons]
    omega
theorem sumW_sum (S : Hp) : ∀ l : List Int, sumW S l = (l.map S.wd).sum
  | [] => by simp [sumW]
  | a :: t => by simp only [sumW, List.map_cons, List.sum_cons, sumW_sum S t]
theorem wd_pos (S : Hp) (a : Int) : 2 ≤ S.wd a := by
  have : 0 ≤ S.num a := unN_nonneg _
  unfold Hp.wd; omega
theorem sumW_le (S : Hp) {l L : List Int} (hn : l.Nodup) (hs : ∀ a ∈ l, a ∈ L) : sumW S l ≤ sumW S L := by
  rw [sumW_sum, sumW_sum]
  exact mem_perm_le _ (fun a => by have := wd_pos S a; omega) l L hn hs
theorem sumW_eq (S : Hp) {l L : List Int} (hn : l.Nodup) (hL : L.Nodup) (h1 : ∀ a ∈ l, a ∈ L) (h2 : ∀ a ∈ L, a ∈ l) : sumW S l = sumW S L := by
  have := sumW_le S hn h1
  have := sumW_le S hL h2
  omega
/-- Objects in a row, apart, between two words. -/
theorem sumW_row (S : Hp) (hi : Int) : ∀ (l : List Int) (lo : Int), l.Pairwise (fun a b => a + 1 + S.num a ≤ b - 1) → (∀ a ∈ l, lo ≤ a - 1 ∧ a + 1 + S.num a ≤ hi) → lo ≤ hi → sumW S l ≤ hi - lo
  | [], lo, _, _, h => by simp only [sumW]; omega
  | a :: t, lo, hp, hb, h => by
    rw [List.pairwise_cons] at hp
    have ha := hb a (by simp)
    have ih := sumW_row S hi t (a + 1 + S.num a) hp.2 (fun b hbt => ⟨hp.1 b hbt, (hb b (by simp [hbt])).2⟩) ha.2
    simp only [sumW, Hp.wd]
    omega
/-- The nursery's objects, rising. -/
def Hp.youngs (S : Hp) : List Int := ((List.range S.A.length).map fun (x : Nat) => (x : Int)).filter fun a => S.inY a
theorem Hp.Ok.lt {S : Hp} (h : S.Ok) {r : Int} (hr : S.is r = true) : 0 ≤ r ∧ r < (S.A.length : Int) := by
  have := h.le hr
  omega
theorem inY_is {S : Hp} {a : Int} (h : S.inY a = true) : S.is a = true ∧ S.y.fr ≤ a - 1 ∧ a - 1 < S.y.top := by
  simp only [Hp.inY, Bool.and_eq_true, decide_eq_true_eq] at h; exact h
theorem inY_end {S : Hp} (hS : S.Ok) {a : Int} (h : S.inY a = true) : a + 1 + S.num a ≤ S.y.top := by
  obtain ⟨h1, h2, h3⟩ := inY_is h
  obtain ⟨hb, h4⟩ := is_bhas h1
  obtain ⟨k, hk, u1, u2⟩ := hS.used _ hb
  have e : (((a - 1).toNat : Nat) : Int) = a - 1 := by omega
  have hn : unN (S.A.getD (a - 1).toNat 0) = S.num a := rfl
  rw [e] at u1 u2
  rw [hn] at u2
  by_cases hk0 : k = 0
  · subst hk0
    have e : (S.sp 0) = S.y := rfl
    rw [e] at u2; omega
  · have hn : 0 ≤ S.num a := unN_nonneg _
    have e : (S.sp 0) = S.y := rfl
    have s0 := hS.sp0 k
    have s1 := hS.sp0 0
    rcases hS.apart (by omega : 0 < 3) hk (fun e => hk0 e.symm) with h5 | h5
    · rw [e] at h5 s1; omega
    · rw [e] at h5 s1; omega
theorem mem_youngs {S : Hp} (hS : S.Ok) {a : Int} : a ∈ S.youngs ↔ S.inY a = true := by
  unfold Hp.youngs
  rw [List.mem_filter, List.mem_map]
  constructor
  · exact fun h => h.2
  · intro h
    refine ⟨⟨a.toNat, ?_, ?_⟩, h⟩
    · have := hS.lt (inY_is h).1
      rw [List.mem_range]; omega
    · have := hS.lt (inY_is h).1
      omega
theorem sum_youngs {S : Hp} (hS : S.Ok) : sumW S S.youngs ≤ S.y.top - S.y.fr := by
  refine sumW_row S S.y.top _ S.y.fr ?_ ?_ hS.y1
  · have h1 : ((List.range S.A.length).map fun (x : Nat) => (x : Int)).Pairwise (· < ·) := by
      rw [List.pairwise_map]
      exact (List.pairwise_lt_range (n := S.A.length)).imp (by intro a b h; omega)
    have h2 : S.youngs.Pairwise (· < ·) := h1.filter _
    refine List.Pairwise.imp_of_mem ?_ h2
    intro a b ha hb hlt
    have ia := (inY_is ((mem_youngs hS).1 ha)).1
    have ib := (inY_is ((mem_youngs hS).1 hb)).1
    have n1 : 0 ≤ S.num a := unN_nonneg _
    have n2 : 0 ≤ S.num b := unN_nonneg _
    rcases objs_apart hS ia ib (by omega) with h3 | h3 <;> omega
  · intro a ha
    have h := (mem_youngs hS).1 ha
    exact ⟨(inY_is h).2.1, inY_end hS h⟩

/-! The order of a shape. -/
def Gr.od (G : Gr) (n : Nat) (rs : List Int) : List Int := (G.outN n ([], (G.roots rs).2)).2
section
variable {G : Gr}
theorem meetO_sub (od : List Int) (r : Int) : ∀ a ∈ od, a ∈ G.meetO od r := by
  intro a ha
  unfold Gr.meetO
  split
  · exact List.mem_append_left _ ha
  · exact ha
theorem meetO_in (od : List Int) {r : Int} (h : G.is r = true) : r ∈ G.meetO od r := by
  unfold Gr.meetO
  split
  · simp
  · rename_i hc
    exact Decidable.byContradiction fun hm => hc ⟨h, hm⟩
theorem meetO_pre (od : List Int) (r : Int) : ∃ t, G.meetO od r = od ++ t := by
  unfold Gr.meetO
  split
  · exact ⟨_, rfl⟩
  · exact ⟨[], by simp⟩
theorem vals_pre (r : Int) (od : List Int) (n : Nat) : ∃ t, (G.vals r od n).2 = od ++ t := by
  induction n with
  | zero => exact ⟨[], by simp [Gr.vals]⟩
  | succ n ih =>
    obtain ⟨t, ht⟩ := ih
    rw [Gr.vals_succ]
    unfold Gr.valStep
    split
    · obtain ⟨t2, h2⟩ := meetO_pre (G := G) (G.vals r od n).2 (G.get r n)
      exact ⟨t ++ t2, by rw [h2, ht, List.append_assoc]⟩
    · exact ⟨t, ht⟩
theorem vals_in (r : Int) (od : List Int) (n : Nat) : ∀ j : Nat, j < n → G.refB r j = true → G.is (G.get r j) = true → G.get r j ∈ (G.vals r od n).2 := by
  induction n with
  | zero => intro j hj; omega
  | succ n ih =>
    intro j hj hb hi
    rw [Gr.vals_succ]
    unfold Gr.valStep
    by_cases hjn : j = n
    · subst hjn
      rw [if_pos hb]
      exact meetO_in _ hi
    · have := ih j (by omega) hb hi
      split
      · exact meetO_sub _ _ _ this
      · exact this
theorem vals_len' (r : Int) (od : List Int) (n : Nat) : (G.vals r od n).1.length = n := by
  induction n with
  | zero => rfl
  | succ n ih =>
    rw [Gr.vals_succ]
    unfold Gr.valStep
    split <;> simp [ih]
theorem outN_pre (n : Nat) (od : List Int) : ∃ t, (G.outN n ([], od)).2 = od ++ t := by
  induction n with
  | zero => exact ⟨[], by simp [Gr.outN]⟩
  | succ n ih =>
    obtain ⟨t, ht⟩ := ih
    show ∃ t, (G.outStep (G.outN n ([], od))).2 = _
    unfold Gr.outStep
    split
    · obtain ⟨t2, h2⟩ := vals_pre (G := G) ((G.outN n ([], od)).2.getD (G.outN n ([], od)).1.length 0) (G.outN n ([], od)).2 (G.num ((G.outN n ([], od)).2.getD (G.outN n ([], od)).1.length 0)).toNat
      exact ⟨t ++ t2, by rw [h2, ht, List.append_assoc]⟩
    · exact ⟨t, ht⟩
/-- Those that are done have their references in the order; each is told by its class and so many values. -/
theorem outN_in (n : Nat) (od : List Int) : ∀ k : Nat, k < (G.outN n ([], od)).1.length → k < (G.outN n ([], od)).2.length ∧
    ((G.outN n ([], od)).1.getD k (0, [])).1 = G.cls ((G.outN n ([], od)).2.getD k 0) ∧ ((G.outN n ([], od)).1.getD k (0, [])).2.length = (G.num ((G.outN n ([], od)).2.getD k 0)).toNat ∧
    ∀ j : Nat, (j : Int) < G.num ((G.outN n ([], od)).2.getD k 0) → G.refB ((G.outN n ([], od)).2.getD k 0) j = true → G.is (G.get ((G.outN n ([], od)).2.getD k 0) j) = true → G.get ((G.outN n ([], od)).2.getD k 0) j ∈ (G.outN n ([], od)).2 := by
  induction n with
  | zero => intro k hk; simp [Gr.outN] at hk
  | succ n ih =>
    show ∀ k : Nat, k < (G.outStep (G.outN n ([], od))).1.length → _
    intro k
    show _ → k < (G.outStep (G.outN n ([], od))).2.length ∧ ((G.outStep (G.outN n ([], od))).1.getD k (0, [])).1 = G.cls ((G.outStep (G.outN n ([], od))).2.getD k 0) ∧ ((G.outStep (G.outN n ([], od))).1.getD k (0, [])).2.length = (G.num ((G.outStep (G.outN n ([], od))).2.getD k 0)).toNat ∧
      ∀ j : Nat, (j : Int) < G.num ((G.outStep (G.outN n ([], od))).2.getD k 0) → G.refB ((G.outStep (G.outN n ([], od))).2.getD k 0) j = true → G.is (G.get ((G.outStep (G.outN n ([], od))).2.getD k 0) j) = true → G.get ((G.outStep (G.outN n ([], od))).2.getD k 0) j ∈ (G.outStep (G.outN n ([], od))).2
    generalize G.outN n ([], od) = s at ih ⊢
    obtain ⟨o, d⟩ := s
    simp only at ih
    by_cases hlt : o.length < d.length
    · have hs : G.outStep (o, d) = (o ++ [(G.cls (d.getD o.length 0), (G.vals (d.getD o.length 0) d (G.num (d.getD o.length 0)).toNat).1)], (G.vals (d.getD o.length 0) d (G.num (d.getD o.length 0)).toNat).2) := by
        unfold Gr.outStep; rw [if_pos hlt]
      rw [hs]
      simp only
      obtain ⟨t, ht⟩ := vals_pre (G := G) (d.getD o.length 0) d (G.num (d.getD o.length 0)).toNat
      have hin := vals_in (G := G) (d.getD o.length 0) d (G.num (d.getD o.length 0)).toNat
      have hvl := vals_len' (G := G) (d.getD o.length 0) d (G.num (d.getD o.length 0)).toNat
      rw [ht] at hin ⊢
      intro hk
      rw [List.length_append, List.length_singleton] at hk
      have hget : (d ++ t).getD k 0 = d.getD k 0 := by
        simp only [List.getD_eq_getElem?_getD]
        rw [List.getElem?_append_left (by omega)]
      rw [hget]
      by_cases hko : k = o.length
      · subst hko
        have h0 : (o ++ [(G.cls (d.getD o.length 0), (G.vals (d.getD o.length 0) d (G.num (d.getD o.length 0)).toNat).1)]).getD o.length (0, []) = (G.cls (d.getD o.length 0), (G.vals (d.getD o.length 0) d (G.num (d.getD o.length 0)).toNat).1) := by
          simp [List.getD_eq_getElem?_getD]
        rw [h0]
        refine ⟨by rw [List.length_append]; omega, rfl, hvl, fun j hj hb hi => hin j (by omega) hb hi⟩
      · have h0 : ∀ x, (o ++ [x]).getD k (0, []) = o.getD k (0, []) := by
          intro x
          simp only [List.getD_eq_getElem?_getD]
          rw [List.getElem?_append_left (by omega)]
        rw [h0]
        obtain ⟨i1, i2, i3, i4⟩ := ih k (by omega)
        exact ⟨by rw [List.length_append]; omega, i2, i3, fun j hj hb hi => List.mem_append_left _ (i4 j hj hb hi)⟩
    · have hs : G.outStep (o, d) = (o, d) := by unfold Gr.outStep; rw [if_neg hlt]
      rw [hs]
      exact ih k
theorem outN_le (n : Nat) (od : List Int) : (G.outN n ([], od)).1.length ≤ (G.outN n ([], od)).2.length := by
  refine Decidable.byContradiction fun h => ?_
  have := (outN_in (G := G) n od ((G.outN n ([], od)).2.length) (by omega)).1
  omega
theorem roots_in (rs : List Int) : ∀ r ∈ rs, G.is r = true → r ∈ (G.roots rs).2 := by
  have pre : ∀ (l : List Int) (s : List Int × List Int), ∃ t, (l.foldl G.rootStep s).2 = s.2 ++ t := by
    intro l
    induction l with
    | nil => intro s; exact ⟨[], by simp⟩
    | cons a l ih =>
      intro s
      obtain ⟨t, ht⟩ := ih (G.rootStep s a)
      obtain ⟨t2, h2⟩ := meetO_pre (G := G) s.2 a
      exact ⟨t2 ++ t, by rw [List.foldl_cons, ht]; show G.meetO s.2 a ++ t = _; rw [h2, List.append_assoc]⟩
  have : ∀ (l : List Int) (s : List Int × List Int), ∀ r ∈ l, G.is r = true → r ∈ (l.foldl G.rootStep s).2 := by
    intro l
    induction l with
    | nil => intro s r hr; simp at hr
    | cons a l ih =>
      intro s r hr hi
      rw [List.foldl_cons]
      rcases List.mem_cons.1 hr with rfl | hr
      · obtain ⟨t, ht⟩ := pre l (G.rootStep s r)
        rw [ht]
        exact List.mem_append_left _ (meetO_in _ hi)
      · exact ih _ r hr hi
  exact this rs _
/-- No more than what is closed. -/
theorem meetO_all {P : Int → Prop} {od : List Int} (h : ∀ a ∈ od, P a) {r : Int} (hr : G.is r = true → P r) : ∀ a ∈ G.meetO od r, P a := by
  intro a ha
  unfold Gr.meetO at ha
  split at ha
  · rename_i hc
    rcases List.mem_append.1 ha with ha | ha
    · exact h a ha
    · simp at ha; subst ha; exact hr hc.1
  · exact h a ha
theorem vals_all {P : Int → Prop} {od : List Int} (h : ∀ a ∈ od, P a) (r : Int) (n : Nat) (hr : ∀ j : Nat, j < n → G.refB r j = true → G.is (G.get r j) = true → P (G.get r j)) : ∀ a ∈ (G.vals r od n).2, P a := by
  induction n with
  | zero => exact h
  | succ n ih =>
    rw [Gr.vals_succ]
    unfold Gr.valStep
    have ih := ih (fun j hj => hr j (by omega))
    split
    · rename_i hb
      exact meetO_all ih (fun hi => hr n (by omega) hb hi)
    · exact ih
theorem outN_all {P : Int → Prop} {od : List Int} (h : ∀ a ∈ od, P a) (hc : ∀ a, P a → ∀ j : Nat, (j : Int) < G.num a → G.refB a j = true → G.is (G.get a j) = true → P (G.get a j)) (n : Nat) : ∀ a ∈ (G.outN n ([], od)).2, P a := by
  induction n with
  | zero => exact h
  | succ n ih =>
    show ∀ a ∈ (G.outStep (G.outN n ([], od))).2, P a
    unfold Gr.outStep
    split
    · rename_i hlt
      have hm : P ((G.outN n ([], od)).2.getD (G.outN n ([], od)).1.length 0) := ih _ (by
        rw [List.getD_eq_getElem?_getD, List.getElem?_eq_getElem hlt]
        exact List.getElem_mem hlt)
      exact vals_all ih _ _ (fun j hj hb hi => hc _ hm j (by omega) hb hi)
    · exact ih
theorem roots_all {P : Int → Prop} (rs : List Int) (h : ∀ r ∈ rs, G.is r = true → P r) : ∀ a ∈ (G.roots rs).2, P a := by
  have : ∀ (l : List Int) (s : List Int × List Int), (∀ a ∈ s.2, P a) → (∀ r ∈ l, G.is r = true → P r) → ∀ a ∈ (l.foldl G.rootStep s).2, P a := by
    intro l
    induction l with
    | nil => intro s h _; exact h
    | cons a l ih =>
      intro s h h2
      rw [List.foldl_cons]
      exact ih _ (meetO_all h (h2 a (by simp))) (fun r hr => h2 r (by simp [hr]))
  exact this rs _ (by simp) h
end

/-- The objects that can be reached. -/
def Hp.reach (S : Hp) (rs : List Int) : List Int := S.gr.od (S.A.length + 1) rs
section
variable {S : Hp} (hS : S.Ok)
include hS
theorem reach_inN (rs : List Int) : InN S.A.length (S.reach rs) := InN.outN (fun _ hr => hS.lt hr) (InN.roots (fun _ hr => hS.lt hr) rs) _
omit hS in
theorem reach_root {rs : List Int} {r : Int} (hr : r ∈ rs) (hi : S.is r = true) : r ∈ S.reach rs := by
  obtain ⟨t, ht⟩ := outN_pre (G := S.gr) (S.A.length + 1) (S.gr.roots rs).2
  unfold Hp.reach Gr.od
  rw [ht]
  exact List.mem_append_left _ (roots_in (G := S.gr) rs r hr hi)
theorem reach_len (rs : List Int) : (S.shape rs).1.length = (S.reach rs).length := by
  rw [gr_shape]
  have h1 := outN_done (G := S.gr) (fun _ hr => hS.lt hr) (InN.roots (G := S.gr) (fun _ hr => hS.lt hr) rs)
  have h2 := outN_le (G := S.gr) (S.A.length + 1) (S.gr.roots rs).2
  unfold Hp.reach Gr.od Gr.shapeN
  dsimp only
  omega
theorem reach_closed {rs : List Int} {a : Int} (ha : a ∈ S.reach rs) (j : Nat) (hj : (j : Int) < S.num a) (hb : S.refB a j = true) (hi : S.is (S.get a j) = true) : S.get a j ∈ S.reach rs := by
  obtain ⟨k, hk, e⟩ := List.mem_iff_getElem.1 ha
  have h1 := reach_len hS rs
  rw [gr_shape] at h1
  unfold Gr.shapeN at h1
  dsimp only at h1
  have h2 := (outN_in (G := S.gr) (S.A.length + 1) (S.gr.roots rs).2 k (by omega)).2.2.2
  have e2 : (S.gr.outN (S.A.length + 1) ([], (S.gr.roots rs).2)).2.getD k 0 = a := by
    show (S.reach rs).getD k 0 = a
    rw [List.getD_eq_getElem?_getD, List.getElem?_eq_getElem hk]
    exact e
  rw [e2] at h2
  exact h2 j hj hb hi
omit hS in
theorem reach_all {P : Int → Prop} {rs : List Int} (h : ∀ r ∈ rs, S.is r = true → P r) (hc : ∀ a, P a → ∀ j : Nat, (j : Int) < S.num a → S.refB a j = true → S.is (S.get a j) = true → P (S.get a j)) : ∀ a ∈ S.reach rs, P a :=
  outN_all (G := S.gr) (roots_all (G := S.gr) rs h) hc _
/-- The words of a shape: those of what can be reached. -/
def wordsO : List (Int × List Int) → Int
  | [] => 0
  | o :: t => 2 + (o.2.length : Int) + wordsO t
omit hS in
theorem wordsO_app : ∀ a b : List (Int × List Int), wordsO (a ++ b) = wordsO a + wordsO b
  | [], b => by simp [wordsO]
  | x :: t, b => by simp only [List.cons_append, wordsO, wordsO_app t b]; omega
theorem words_reach (rs : List Int) : wordsO (S.shape rs).1 = sumW S (S.reach rs) := by
  have h1 := reach_len hS rs
  have h2 : ∀ k, k < (S.shape rs).1.length → ((S.shape rs).1.getD k (0, [])).2.length = (S.num ((S.reach rs).getD k 0)).toNat := by
    intro k hk
    rw [gr_shape] at hk ⊢
    exact (outN_in (G := S.gr) (S.A.length + 1) (S.gr.roots rs).2 k hk).2.2.1
  generalize (S.shape rs).1 = o at h1 h2
  generalize S.reach rs = d at h1 h2
  clear hS
  induction o generalizing d with
  | nil =>
    cases d with
    | nil => rfl
    | cons a t => simp at h1
  | cons x t ih =>
    cases d with
    | nil => simp at h1
    | cons a d =>
      have h3 := h2 0 (by simp)
      have ih := ih d (by simpa using h1) (fun k hk => by
        have := h2 (k + 1) (by simpa using hk)
        simpa using this)
      have hn : 0 ≤ S.num a := unN_nonneg _
      simp only [List.getD_cons_zero] at h3
      simp only [wordsO, sumW, Hp.wd, ih, h3]
      omega
end
end Go.Proofs.YtneeljhjfmcdoaaDoor
