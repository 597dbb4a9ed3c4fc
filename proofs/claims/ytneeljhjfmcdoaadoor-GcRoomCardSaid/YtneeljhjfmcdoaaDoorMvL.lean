/- Moving objects, in plain Lean: what holds in the midst of a collection, and how each step keeps it. -/
import Derived.Test.YtneeljhjfmcdoaaDoorLaid
import Derived.Test.YtneeljhjfmcdoaaDoorGraph
namespace Go.Proofs.YtneeljhjfmcdoaaDoor

/-- An object's words. -/
def Hp.wd (S : Hp) (r : Int) : Int := 2 + S.num r
/-- No object has gone anywhere. -/
def Hp.Zero (S : Hp) : Prop := ∀ r, S.is r = true → S.A.getD r.toNat 0 = 0
def sumW (S : Hp) : List Int → Int
  | [] => 0
  | a :: t => S.wd a + sumW S t
theorem sumW_app (S : Hp) : ∀ a b : List Int, sumW S (a ++ b) = sumW S a + sumW S b
  | [], b => by simp [sumW]
  | x :: t, b => by simp only [List.cons_append, sumW, sumW_app S t b]; omega

/-- What a collection is about: the heap as it was (the space that is moved to at its beginning), all or the nursery alone, the space that is moved to. -/
structure Cx where
  S : Hp
  all : Bool
  tk : Nat
def Cx.frm (X : Cx) (a : Int) : Bool := X.S.is a && (X.all || X.S.inY a)
def Cx.T0 (X : Cx) : Int := (X.S.sp X.tk).top
def Cx.tp (X : Cx) : Int := (X.S.sp X.tk).to

structure Cx.Ok (X : Cx) : Prop where
  ok : X.S.Ok
  zero : X.S.Zero
  wide : X.S.Wide
  k3 : X.tk < 3
  k0 : X.tk ≠ 0

theorem Cx.is {X : Cx} {a : Int} (h : X.frm a = true) : X.S.is a = true := by
  simp only [Cx.frm, Bool.and_eq_true] at h; exact h.1

/-- The room that is moved to lies apart from all objects. -/
theorem Cx.Ok.away {X : Cx} (h : X.Ok) {a : Int} (ha : X.S.is a = true) : a + 1 + X.S.num a ≤ X.T0 ∨ X.tp ≤ a - 1 := by
  obtain ⟨hb, h1⟩ := is_bhas ha
  obtain ⟨k, hk, u1, u2⟩ := h.ok.used _ hb
  have e : (((a - 1).toNat : Nat) : Int) = a - 1 := by omega
  rw [e] at u1 u2
  have hn : unN (X.S.A.getD (a - 1).toNat 0) = X.S.num a := rfl
  rw [hn] at u2
  obtain ⟨s0, s1, s2, s3⟩ := h.ok.sp0 k
  obtain ⟨t0, t1, t2, t3⟩ := h.ok.sp0 X.tk
  unfold Cx.T0 Cx.tp
  by_cases hkt : k = X.tk
  · subst hkt; left; omega
  · rcases h.ok.apart hk h.k3 hkt with h2 | h2
    · left; omega
    · right; omega
/-- Two objects lie apart. -/
theorem objs_apart {S : Hp} (h : S.Ok) {a b : Int} (ha : S.is a = true) (hb : S.is b = true) (hne : a ≠ b) : a + 1 + S.num a ≤ b - 1 ∨ b + 1 + S.num b ≤ a - 1 := by
  obtain ⟨a1, a2⟩ := is_bhas ha
  obtain ⟨b1, b2⟩ := is_bhas hb
  rcases Nat.lt_or_ge (a - 1).toNat (b - 1).toNat with hl | hl
  · have := h.disj _ _ a1 b1 hl
    have e : S.num a = unN (S.A.getD (a - 1).toNat 0) := rfl
    left; omega
  · have := h.disj _ _ b1 a1 (by omega)
    have e : S.num b = unN (S.A.getD (b - 1).toNat 0) := rfl
    right; omega

/-- Where a number has gone. -/
def fwL (l : List (Int × Int)) (v : Int) : Int := ((l.find? fun p => p.1 == v).map Prod.snd).getD v
theorem fwL_not {l : List (Int × Int)} {v : Int} (h : v ∉ l.map Prod.fst) : fwL l v = v := by
  unfold fwL
  rw [List.find?_eq_none.2 (fun p hp => by
    simp only [beq_iff_eq]
    intro e
    exact h (List.mem_map.2 ⟨p, hp, e⟩))]
  rfl
theorem fwL_mem : ∀ {l : List (Int × Int)} {a b : Int}, (l.map Prod.fst).Nodup → (a, b) ∈ l → fwL l a = b
  | [], _, _, _, h => by simp at h
  | p :: t, a, b, hn, h => by
    rw [List.map_cons, List.nodup_cons] at hn
    unfold fwL
    rcases List.mem_cons.1 h with e | h1
    · subst e; simp
    · have : p.1 ≠ a := by
        intro e
        exact hn.1 (e ▸ List.mem_map.2 ⟨(a, b), h1, rfl⟩)
      rw [List.find?_cons_of_neg (by simpa using this)]
      exact fwL_mem hn.2 h1
theorem fwL_some {l : List (Int × Int)} {v : Int} (h : v ∈ l.map Prod.fst) : (v, fwL l v) ∈ l := by
  obtain ⟨p, hp, e⟩ := List.mem_map.1 h
  unfold fwL
  cases hf : l.find? fun p => p.1 == v with
  | none => exact absurd e (by simpa using List.find?_eq_none.1 hf p hp)
  | some q =>
    have h1 := List.mem_of_find?_eq_some hf
    have h2 := List.find?_some hf
    simp only [beq_iff_eq] at h2
    show (v, q.2) ∈ l
    rw [← h2]; exact h1
theorem fwL_snoc_old {l : List (Int × Int)} {v : Int} (p : Int × Int) (h : v ∈ l.map Prod.fst) : fwL (l ++ [p]) v = fwL l v := by
  obtain ⟨q, hq, e⟩ := List.mem_map.1 h
  unfold fwL
  rw [List.find?_append]
  cases hf : l.find? fun p => p.1 == v with
  | none => exact absurd e (by simpa using List.find?_eq_none.1 hf q hq)
  | some r => rfl

/-- The midst of a collection: the words, how far the room is used, who has gone where, who is still to be looked through. -/
structure Mv where
  A : List Int
  top : Int
  mv : List (Int × Int)
  work : List Int

/-- Object a's (new) place is b. -/
def Mv.Img (X : Cx) (M : Mv) (a b : Int) : Prop := (a, b) ∈ M.mv ∨ (X.S.is a = true ∧ X.frm a = false ∧ a = b)

structure Mv.Ok (X : Cx) (Lv : List Int) (sc : Int → Nat → Bool) (M : Mv) : Prop where
  len : M.A.length = X.S.A.length
  nd : (M.mv.map Prod.fst).Nodup
  frm : ∀ a b, (a, b) ∈ M.mv → X.frm a = true ∧ a ∈ Lv
  bd : ∀ a b, (a, b) ∈ M.mv → X.T0 + 1 ≤ b ∧ b + 1 + X.S.num a ≤ M.top
  dj : M.mv.Pairwise (fun p q => p.2 + 1 + X.S.num p.1 < q.2)
  top : M.top = X.T0 + sumW X.S (M.mv.map Prod.fst)
  tp : M.top ≤ X.tp
  unm : ∀ a, X.frm a = true → a ∉ M.mv.map Prod.fst → ∀ i, a - 1 ≤ i → i < a + 1 + X.S.num a → M.A.getD i.toNat 0 = X.S.A.getD i.toNat 0
  mvd : ∀ a b, (a, b) ∈ M.mv → M.A.getD a.toNat 0 = b ∧ M.A.getD (a - 1).toNat 0 = X.S.A.getD (a - 1).toNat 0
  img : ∀ a b, M.Img X a b → M.A.getD (b - 1).toNat 0 = X.S.A.getD (a - 1).toNat 0 ∧ M.A.getD b.toNat 0 = 0 ∧
    ∀ j : Nat, (j : Int) < X.S.num a → M.A.getD (b + 1 + j).toNat 0 = if (sc b j && X.S.refB a j) = true then fwL M.mv (X.S.get a j) else X.S.get a j
  scm : ∀ a b, M.Img X a b → ∀ j : Nat, (j : Int) < X.S.num a → sc b j = true → X.S.refB a j = true → X.frm (X.S.get a j) = true → X.S.get a j ∈ M.mv.map Prod.fst
  scn : ∀ b j, sc b j = true → b ≤ M.top ∨ X.tp < b
  wide : ∀ i : Nat, -9223372036854775808 ≤ M.A.getD i 0 ∧ M.A.getD i 0 ≤ 9223372036854775807

section
variable {X : Cx} {Lv : List Int} {sc : Int → Nat → Bool} {M : Mv}

theorem Mv.Ok.start (hX : X.Ok) (Lv : List Int) : (⟨X.S.A, X.T0, [], []⟩ : Mv).Ok X Lv (fun _ _ => false) := by
  have h0 := hX.ok.sp0 X.tk
  refine ⟨rfl, List.nodup_nil, by simp, by simp, List.Pairwise.nil, by simp [sumW], by show X.T0 ≤ X.tp; unfold Cx.T0 Cx.tp; omega, fun _ _ _ _ _ _ => rfl, by simp, ?_, by simp, by simp, hX.wide⟩
  rintro a b (h | ⟨h1, _, rfl⟩)
  · simp at h
  · exact ⟨rfl, hX.zero a h1, fun j _ => by simp [Hp.get]⟩

/-- Whose place is the same is the same. -/
theorem Mv.Ok.inj (hX : X.Ok) (h : M.Ok X Lv sc) {a a' b : Int} (h1 : M.Img X a b) (h2 : M.Img X a' b) : a = a' := by
  have key : ∀ {a a' : Int}, (a, b) ∈ M.mv → (a', b) ∈ M.mv → a = a' := by
    intro a a' k1 k2
    obtain ⟨i, hi, e1⟩ := List.mem_iff_getElem.1 k1
    obtain ⟨j, hj, e2⟩ := List.mem_iff_getElem.1 k2
    have hd := List.pairwise_iff_getElem.1 h.dj
    have n1 : 0 ≤ X.S.num a := unN_nonneg _
    have n2 : 0 ≤ X.S.num a' := unN_nonneg _
    rcases Nat.lt_trichotomy i j with hl | hl | hl
    · have := hd i j hi hj hl
      rw [e1, e2] at this; simp only at this; omega
    · subst hl
      have e := e1.symm.trans e2
      injection e
    · have := hd j i hj hi hl
      rw [e1, e2] at this; simp only at this; omega
  have mix : ∀ {a a' : Int}, (a, b) ∈ M.mv → X.S.is a' = true → a' = b → False := by
    intro a a' k1 k2 k3
    subst k3
    have b1 := h.bd _ _ k1
    have b2 := h.tp
    have n1 : 0 ≤ X.S.num a := unN_nonneg _
    have n2 : 0 ≤ X.S.num a' := unN_nonneg _
    rcases hX.away k2 with h3 | h3 <;> omega
  rcases h1 with h1 | ⟨p1, _, e1⟩ <;> rcases h2 with h2 | ⟨p2, _, e2⟩
  · exact key h1 h2
  · exact (mix h1 p2 e2).elim
  · exact (mix h2 p1 e1).elim
  · rw [e1, e2]

/-- Where an object's words lie: in the room, or where they lay. -/
theorem Mv.Ok.place (hX : X.Ok) (h : M.Ok X Lv sc) {a b : Int} (hi : M.Img X a b) : X.S.is a = true ∧ 1 ≤ b ∧ b + 1 + X.S.num a ≤ M.A.length := by
  rcases hi with h1 | ⟨p1, _, rfl⟩
  · have h2 := h.bd _ _ h1
    have h3 := h.tp
    have h4 := hX.ok.sp0 X.tk
    have h5 := h.len
    unfold Cx.T0 at h2
    unfold Cx.tp at h3
    exact ⟨X.is (h.frm _ _ h1).1, by omega, by omega⟩
  · have h2 := hX.ok.le p1
    have h5 := h.len
    exact ⟨p1, by omega, by omega⟩
/-- Two places' words lie apart. -/
theorem Mv.Ok.apart (hX : X.Ok) (h : M.Ok X Lv sc) {a b a' b' : Int} (h1 : M.Img X a b) (h2 : M.Img X a' b') (hne : b ≠ b') : b + 1 + X.S.num a ≤ b' - 1 ∨ b' + 1 + X.S.num a' ≤ b - 1 := by
  have mix : ∀ {a b a' b' : Int}, (a, b) ∈ M.mv → X.S.is a' = true → a' = b' → b + 1 + X.S.num a ≤ b' - 1 ∨ b' + 1 + X.S.num a' ≤ b - 1 := by
    intro a b a' b' k1 k2 k3
    subst k3
    have b1 := h.bd _ _ k1
    have b2 := h.tp
    rcases hX.away k2 with h3 | h3
    · right; omega
    · left; omega
  rcases h1 with k1 | ⟨p1, q1, rfl⟩ <;> rcases h2 with k2 | ⟨p2, q2, rfl⟩
  · obtain ⟨i, hi, e1⟩ := List.mem_iff_getElem.1 k1
    obtain ⟨j, hj, e2⟩ := List.mem_iff_getElem.1 k2
    have hd := List.pairwise_iff_getElem.1 h.dj
    rcases Nat.lt_trichotomy i j with hl | hl | hl
    · have := hd i j hi hj hl
      rw [e1, e2] at this; simp only at this; left; omega
    · subst hl
      have e := e1.symm.trans e2
      injection e with _ e4
      exact absurd e4 hne
    · have := hd j i hj hi hl
      rw [e1, e2] at this; simp only at this; right; omega
  · exact mix k1 p2 rfl
  · exact (mix k2 p1 rfl).symm
  · exact objs_apart hX.ok p1 p2 hne

/-- A place's words, and those of an object that is to be moved away, lie apart. -/
theorem Mv.Ok.apart0 (hX : X.Ok) (h : M.Ok X Lv sc) {a b r : Int} (h1 : M.Img X a b) (hr : X.frm r = true) : b + 1 + X.S.num a ≤ r - 1 ∨ r + 1 + X.S.num r ≤ b - 1 := by
  rcases h1 with k1 | ⟨p1, q1, rfl⟩
  · have b1 := h.bd _ _ k1
    have b2 := h.tp
    rcases hX.away (X.is hr) with h3 | h3
    · right; omega
    · left; omega
  · exact objs_apart hX.ok p1 (X.is hr) (fun e => by rw [e, hr] at q1; cases q1)

/-- An object is moved. -/
def Mv.new (X : Cx) (M : Mv) (r : Int) : Mv :=
  ⟨(splice M.A M.top.toNat ((M.A.drop (r - 1).toNat).take (X.S.wd r).toNat)).set r.toNat (M.top + 1), M.top + X.S.wd r, M.mv ++ [(r, M.top + 1)], M.work ++ [M.top + 1]⟩

theorem new_get (hX : X.Ok) (h : M.Ok X Lv sc) {r : Int} (hr : X.frm r = true) (hroom : M.top + X.S.wd r ≤ X.tp) (i : Int) (hi : 0 ≤ i) :
    (M.new X r).A.getD i.toNat 0 = if i = r then M.top + 1 else if M.top ≤ i ∧ i < M.top + X.S.wd r then M.A.getD (r - 1 + (i - M.top)).toNat 0 else M.A.getD i.toNat 0 := by
  have h1 := hX.ok.le (X.is hr)
  have h4 := hX.ok.sp0 X.tk
  have h5 := h.len
  have h6 := h.top
  have hT : X.T0 ≤ M.top := by
    rw [h.top]
    have : ∀ l : List Int, 0 ≤ sumW X.S l := by
      intro l
      induction l with
      | nil => exact Int.le_refl _
      | cons a t ih =>
        have : 0 ≤ X.S.num a := unN_nonneg _
        simp only [sumW, Hp.wd]; omega
    have := this (M.mv.map Prod.fst)
    omega
  unfold Cx.T0 at hT
  unfold Cx.tp at hroom
  unfold Hp.wd at *
  have hl : ((M.A.drop (r - 1).toNat).take (2 + X.S.num r).toNat).length = (2 + X.S.num r).toNat := by
    rw [List.length_take, List.length_drop]; omega
  have hsl : (splice M.A M.top.toNat ((M.A.drop (r - 1).toNat).take (2 + X.S.num r).toNat)).length = M.A.length := length_splice _ _ _ (by rw [hl]; omega)
  show ((splice M.A M.top.toNat ((M.A.drop (r - 1).toNat).take (2 + X.S.num r).toNat)).set r.toNat (M.top + 1)).getD i.toNat 0 = _
  rw [getD_set _ _ _ _ (by rw [hsl]; omega)]
  by_cases hir : i = r
  · rw [if_pos (by omega), if_pos hir]
  · rw [if_neg (by omega), if_neg hir, getD_splice _ _ _ _ (by rw [hl]; omega), hl]
    by_cases hin : M.top ≤ i ∧ i < M.top + (2 + X.S.num r)
    · rw [if_pos (by omega), if_pos hin]
      simp only [List.getD_eq_getElem?_getD]
      rw [List.getElem?_take_of_lt (by omega), List.getElem?_drop]
      congr 2; omega
    · rw [if_neg (by omega), if_neg hin]

theorem Mv.Ok.low (h : M.Ok X Lv sc) : X.T0 ≤ M.top := by
  rw [h.top]
  have : ∀ l : List Int, 0 ≤ sumW X.S l := by
    intro l
    induction l with
    | nil => exact Int.le_refl _
    | cons a t ih =>
      have : 0 ≤ X.S.num a := unN_nonneg _
      simp only [sumW, Hp.wd]; omega
  have := this (M.mv.map Prod.fst)
  omega

theorem Mv.Ok.new (hX : X.Ok) (h : M.Ok X Lv sc) {r : Int} (hr : X.frm r = true) (hl : r ∈ Lv) (hno : r ∉ M.mv.map Prod.fst) (hroom : M.top + X.S.wd r ≤ X.tp) : (M.new X r).Ok X Lv sc := by
  have hg := new_get hX h hr hroom
  have hris := X.is hr
  have hrle := hX.ok.le hris
  have hraw := hX.away hris
  have hlow := h.low
  have ht0 : 0 ≤ X.T0 := by have := hX.ok.sp0 X.tk; unfold Cx.T0; omega
  have hwd : X.S.wd r = 2 + X.S.num r := rfl
  have hmem : ∀ a b, (a, b) ∈ (M.new X r).mv ↔ (a, b) ∈ M.mv ∨ (a = r ∧ b = M.top + 1) := by
    intro a b
    show (a, b) ∈ M.mv ++ [(r, M.top + 1)] ↔ _
    simp
  have hfst : (M.new X r).mv.map Prod.fst = M.mv.map Prod.fst ++ [r] := by show (M.mv ++ [(r, M.top + 1)]).map Prod.fst = _; simp
  have hfr_r : ∀ a b, (a, b) ∈ M.mv → a ≠ r := fun a b hm e => hno (e ▸ List.mem_map.2 ⟨(a, b), hm, rfl⟩)
  -- words that are neither r's own nor of the room are what they were
  have keep : ∀ i, 0 ≤ i → i ≠ r → ¬ (M.top ≤ i ∧ i < M.top + X.S.wd r) → (M.new X r).A.getD i.toNat 0 = M.A.getD i.toNat 0 := by
    intro i h0 h1 h2
    rw [hg i h0, if_neg h1, if_neg h2]
  have himg : ∀ a b, (M.new X r).Img X a b ↔ M.Img X a b ∨ (a = r ∧ b = M.top + 1) := by
    intro a b
    unfold Mv.Img
    rw [hmem]
    constructor
    · rintro ((h1 | h1) | h1)
      · exact .inl (.inl h1)
      · exact .inr h1
      · exact .inl (.inr h1)
    · rintro ((h1 | h1) | h1)
      · exact .inl (.inl h1)
      · exact .inr h1
      · exact .inl (.inr h1)
  have hfw : ∀ v, (X.frm v = true → v ∈ M.mv.map Prod.fst) → fwL (M.new X r).mv v = fwL M.mv v := by
    intro v hv
    show fwL (M.mv ++ [(r, M.top + 1)]) v = _
    by_cases hm : v ∈ M.mv.map Prod.fst
    · exact fwL_snoc_old _ hm
    · have hvr : v ≠ r := fun e => hm (hv (e ▸ hr))
      rw [fwL_not hm, fwL_not]
      simp only [List.map_append, List.mem_append, List.map_cons, List.map_nil, List.mem_singleton, not_or]
      exact ⟨hm, hvr⟩
  refine ⟨?_, ?_, ?_, ?_, ?_, ?_, ?_, ?_, ?_, ?_, ?_, ?_, ?_⟩
  · show ((splice M.A M.top.toNat ((M.A.drop (r - 1).toNat).take (X.S.wd r).toNat)).set r.toNat (M.top + 1)).length = _
    rw [List.length_set, length_splice, h.len]
    rw [List.length_take, List.length_drop]
    have h4 := hX.ok.sp0 X.tk
    have h5 := h.len
    unfold Cx.tp at hroom
    omega
  · rw [hfst, List.nodup_append]
    exact ⟨h.nd, by simp, fun a ha b hb e => by simp at hb; exact hno (hb ▸ e ▸ ha)⟩
  · intro a b hm
    rcases (hmem a b).1 hm with h1 | ⟨rfl, _⟩
    · exact h.frm a b h1
    · exact ⟨hr, hl⟩
  · intro a b hm
    show _ ∧ _ ≤ M.top + X.S.wd r
    rcases (hmem a b).1 hm with h1 | ⟨rfl, rfl⟩
    · have := h.bd a b h1
      exact ⟨this.1, by omega⟩
    · exact ⟨by omega, by omega⟩
  · show (M.mv ++ [(r, M.top + 1)]).Pairwise _
    rw [List.pairwise_append]
    refine ⟨h.dj, List.pairwise_singleton _ _, fun p hp q hq => ?_⟩
    simp at hq
    subst hq
    have := (h.bd p.1 p.2 hp).2
    show p.2 + 1 + X.S.num p.1 < M.top + 1
    omega
  · rw [hfst, sumW_app]
    have := h.top
    show M.top + X.S.wd r = _
    simp only [sumW]; omega
  · exact hroom
  · intro a ha hna i h1 h2
    rw [hfst] at hna
    simp only [List.mem_append, List.mem_singleton, not_or] at hna
    have hale := hX.ok.le (X.is ha)
    have haw := hX.away (X.is ha)
    rw [keep i (by omega) ?_ ?_]
    · exact h.unm a ha hna.1 i h1 h2
    · rcases objs_apart hX.ok (X.is ha) hris hna.2 with h3 | h3 <;> omega
    · have := h.tp; omega
  · intro a b hm
    rcases (hmem a b).1 hm with h1 | ⟨rfl, rfl⟩
    · have hf := (h.frm a b h1).1
      have hale := hX.ok.le (X.is hf)
      have haw := hX.away (X.is hf)
      have hap := objs_apart hX.ok (X.is hf) hris (hfr_r a b h1)
      have := h.tp
      rw [keep a (by omega) (hfr_r a b h1) (by omega), keep (a - 1) (by omega) (by omega) (by omega)]
      exact h.mvd a b h1
    · have := h.tp
      rw [hg a (by omega), if_pos rfl, keep (a - 1) (by omega) (by omega) (by omega)]
      exact ⟨rfl, h.unm a hr hno _ (Int.le_refl _) (by omega)⟩
  · intro a b hi
    rcases (himg a b).1 hi with h1 | ⟨rfl, rfl⟩
    · obtain ⟨hais, hb1, hb2⟩ := h.place hX h1
      have hn : 0 ≤ X.S.num a := unN_nonneg _
      have hap := h.apart0 hX h1 hr
      have hout : b + 1 + X.S.num a ≤ M.top ∨ M.top + X.S.wd r ≤ b - 1 := by
        rcases h1 with k1 | ⟨p1, _, rfl⟩
        · left; exact (h.bd _ _ k1).2
        · rcases hX.away p1 with h3 | h3
          · left; omega
          · right; omega
      obtain ⟨i1, i2, i3⟩ := h.img a b h1
      rw [keep (b - 1) (by omega) (by omega) (by omega), keep b (by omega) (by omega) (by omega)]
      refine ⟨i1, i2, fun j hj => ?_⟩
      rw [keep (b + 1 + j) (by omega) (by omega) (by omega), i3 j hj]
      by_cases hs : (sc b j && X.S.refB a j) = true
      · rw [if_pos hs, if_pos hs]
        simp only [Bool.and_eq_true] at hs
        exact (hfw _ (fun hv => h.scm a b h1 j hj hs.1 hs.2 hv)).symm
      · rw [if_neg hs, if_neg hs]
    · have htp := h.tp
      have hunm := h.unm a hr hno
      rw [hg (M.top + 1 - 1) (by omega), if_neg (by omega), if_pos (by omega), hg (M.top + 1) (by omega), if_neg (by omega), if_pos (by omega)]
      rw [show a - 1 + (M.top + 1 - 1 - M.top) = a - 1 by omega, show a - 1 + (M.top + 1 - M.top) = a by omega]
      refine ⟨hunm _ (Int.le_refl _) (by omega), ?_, fun j hj => ?_⟩
      · rw [hunm a (by omega) (by omega)]
        exact hX.zero a hris
      · have hsc : sc (M.top + 1) j = false := by
          cases hs : sc (M.top + 1) j with
          | false => rfl
          | true =>
            rcases h.scn _ _ hs with h3 | h3 <;> omega
        rw [hsc, Bool.false_and, if_neg (by simp), hg _ (by omega), if_neg (by omega), if_pos (by omega)]
        rw [show a - 1 + (M.top + 1 + 1 + (j : Int) - M.top) = a + 1 + j by omega, hunm _ (by omega) (by omega)]
        rfl
  · intro a b hi j hj hs hb hv
    rw [hfst, List.mem_append]
    rcases (himg a b).1 hi with h1 | ⟨rfl, rfl⟩
    · exact .inl (h.scm a b h1 j hj hs hb hv)
    · exfalso
      rcases h.scn _ _ hs with h3 | h3 <;> omega
  · intro b j hs
    show b ≤ M.top + X.S.wd r ∨ _
    rcases h.scn b j hs with h3 | h3
    · left; omega
    · exact .inr h3
  · intro i
    have h4 := hX.ok.sp0 X.tk
    have h5 := hX.ok.len
    have := hg i (by omega)
    rw [Int.toNat_natCast] at this
    rw [this]
    unfold Cx.tp at hroom
    split
    · omega
    · split
      · exact h.wide _
      · exact h.wide i

theorem Mv.Ok.fwWide (hX : X.Ok) (h : M.Ok X Lv sc) (v : Int) (hv : -9223372036854775808 ≤ v ∧ v ≤ 9223372036854775807) : -9223372036854775808 ≤ fwL M.mv v ∧ fwL M.mv v ≤ 9223372036854775807 := by
  by_cases hm : v ∈ M.mv.map Prod.fst
  · have h1 := h.bd _ _ (fwL_some hm)
    have h2 := h.tp
    have h3 := hX.ok.sp0 X.tk
    have h4 := hX.ok.len
    have h5 : 0 ≤ X.S.num v := unN_nonneg _
    unfold Cx.T0 at h1
    unfold Cx.tp at h2
    omega
  · rw [fwL_not hm]; exact hv

/-- One more value is looked at. -/
def sc1 (sc : Int → Nat → Bool) (b : Int) (j : Nat) : Int → Nat → Bool := fun x k => sc x k || (decide (x = b) && decide (k = j))

theorem Mv.Ok.scn' (hX : X.Ok) (h : M.Ok X Lv sc) {a b : Int} (hi : M.Img X a b) : b ≤ M.top ∨ X.tp < b := by
  have hn : 0 ≤ X.S.num a := unN_nonneg _
  have := h.low
  rcases hi with h1 | ⟨p1, _, rfl⟩
  · left; have := (h.bd _ _ h1).2; omega
  · rcases hX.away p1 with h3 | h3
    · left; omega
    · right; omega

/-- It is no reference. -/
theorem Mv.Ok.skip (hX : X.Ok) (h : M.Ok X Lv sc) {a b : Int} (hi : M.Img X a b) (j : Nat) (hno : X.S.refB a j = false) : M.Ok X Lv (sc1 sc b j) := by
  refine ⟨h.len, h.nd, h.frm, h.bd, h.dj, h.top, h.tp, h.unm, h.mvd, ?_, ?_, ?_, h.wide⟩
  · intro a' b' hi'
    obtain ⟨i1, i2, i3⟩ := h.img a' b' hi'
    refine ⟨i1, i2, fun k hk => ?_⟩
    rw [i3 k hk]
    by_cases he : b' = b ∧ k = j
    · obtain ⟨rfl, rfl⟩ := he
      obtain rfl := h.inj hX hi hi'
      rw [hno, Bool.and_false, Bool.and_false]
    · have : sc1 sc b j b' k = sc b' k := by
        unfold sc1
        by_cases h1 : b' = b
        · rw [decide_eq_false (fun h2 => he ⟨h1, h2⟩), Bool.and_false, Bool.or_false]
        · rw [decide_eq_false h1, Bool.false_and, Bool.or_false]
      rw [this]
  · intro a' b' hi' k hk hs hb hv
    unfold sc1 at hs
    rw [Bool.or_eq_true] at hs
    rcases hs with hs | hs
    · exact h.scm a' b' hi' k hk hs hb hv
    · simp only [Bool.and_eq_true, decide_eq_true_eq] at hs
      obtain ⟨rfl, rfl⟩ := hs
      obtain rfl := h.inj hX hi hi'
      rw [hno] at hb; cases hb
  · intro b' k hs
    unfold sc1 at hs
    rw [Bool.or_eq_true] at hs
    rcases hs with hs | hs
    · exact h.scn b' k hs
    · simp only [Bool.and_eq_true, decide_eq_true_eq] at hs
      obtain ⟨rfl, rfl⟩ := hs
      exact h.scn' hX hi

/-- It is one: where it has gone is laid. -/
theorem Mv.Ok.put (hX : X.Ok) (h : M.Ok X Lv sc) {a b : Int} (hi : M.Img X a b) (j : Nat) (hj : (j : Int) < X.S.num a) (hrf : X.S.refB a j = true) (hm : X.frm (X.S.get a j) = true → X.S.get a j ∈ M.mv.map Prod.fst) :
    ({ M with A := M.A.set (b + 1 + j).toNat (fwL M.mv (X.S.get a j)) } : Mv).Ok X Lv (sc1 sc b j) := by
  obtain ⟨hais, hb1, hb2⟩ := h.place hX hi
  have hg : ∀ i, 0 ≤ i → (M.A.set (b + 1 + j).toNat (fwL M.mv (X.S.get a j))).getD i.toNat 0 = if i = b + 1 + j then fwL M.mv (X.S.get a j) else M.A.getD i.toNat 0 := by
    intro i h0
    rw [getD_set _ _ _ _ (by omega)]
    by_cases he : i = b + 1 + j
    · rw [if_pos (by omega), if_pos he]
    · rw [if_neg (by omega), if_neg he]
  have hImg : ∀ a' b', ({ M with A := M.A.set (b + 1 + j).toNat (fwL M.mv (X.S.get a j)) } : Mv).Img X a' b' ↔ M.Img X a' b' := fun _ _ => Iff.rfl
  refine ⟨by show (M.A.set _ _).length = _; rw [List.length_set]; exact h.len, h.nd, h.frm, h.bd, h.dj, h.top, h.tp, ?_, ?_, ?_, ?_, ?_, ?_⟩
  · intro a' ha hna i h1 h2
    have hale := hX.ok.le (X.is ha)
    have hap := h.apart0 hX hi ha
    show (M.A.set _ _).getD _ _ = _
    rw [hg i (by omega), if_neg (by omega)]
    exact h.unm a' ha hna i h1 h2
  · intro a' b' hm'
    have hf := (h.frm a' b' hm').1
    have hale := hX.ok.le (X.is hf)
    have hap := h.apart0 hX hi hf
    show (M.A.set _ _).getD _ _ = _ ∧ (M.A.set _ _).getD _ _ = _
    rw [hg a' (by omega), if_neg (by omega), hg (a' - 1) (by omega), if_neg (by omega)]
    exact h.mvd a' b' hm'
  · intro a' b' hi'
    have hi' := (hImg a' b').1 hi'
    obtain ⟨i1, i2, i3⟩ := h.img a' b' hi'
    obtain ⟨hais', hb1', hb2'⟩ := h.place hX hi'
    have hn' : 0 ≤ X.S.num a' := unN_nonneg _
    show (M.A.set _ _).getD _ _ = _ ∧ (M.A.set _ _).getD _ _ = _ ∧ ∀ k : Nat, (k : Int) < X.S.num a' → (M.A.set _ _).getD _ _ = _
    by_cases hbb : b' = b
    · subst hbb
      obtain rfl := h.inj hX hi hi'
      rw [hg (b' - 1) (by omega), if_neg (by omega), hg b' (by omega), if_neg (by omega)]
      refine ⟨i1, i2, fun k hk => ?_⟩
      rw [hg _ (by omega)]
      by_cases hkj : k = j
      · subst hkj
        rw [if_pos rfl]
        rw [hrf, Bool.and_true, if_pos (by unfold sc1; simp)]
      · rw [if_neg (by omega), i3 k hk]
        have : sc1 sc b' j b' k = sc b' k := by unfold sc1; rw [decide_eq_false hkj, Bool.and_false, Bool.or_false]
        rw [this]
    · have hap := h.apart hX hi hi' (fun e => hbb e.symm)
      rw [hg (b' - 1) (by omega), if_neg (by omega), hg b' (by omega), if_neg (by omega)]
      refine ⟨i1, i2, fun k hk => ?_⟩
      rw [hg _ (by omega), if_neg (by omega), i3 k hk]
      have : sc1 sc b j b' k = sc b' k := by unfold sc1; rw [decide_eq_false hbb, Bool.false_and, Bool.or_false]
      rw [this]
  · intro a' b' hi' k hk hs hb hv
    have hi' := (hImg a' b').1 hi'
    unfold sc1 at hs
    rw [Bool.or_eq_true] at hs
    rcases hs with hs | hs
    · exact h.scm a' b' hi' k hk hs hb hv
    · simp only [Bool.and_eq_true, decide_eq_true_eq] at hs
      obtain ⟨rfl, rfl⟩ := hs
      obtain rfl := h.inj hX hi hi'
      exact hm hv
  · intro b' k hs
    unfold sc1 at hs
    rw [Bool.or_eq_true] at hs
    rcases hs with hs | hs
    · exact h.scn b' k hs
    · simp only [Bool.and_eq_true, decide_eq_true_eq] at hs
      obtain ⟨rfl, rfl⟩ := hs
      exact h.scn' hX hi
  · intro i
    have := hg i (by omega)
    rw [Int.toNat_natCast] at this
    show _ ≤ (M.A.set _ _).getD i 0 ∧ (M.A.set _ _).getD i 0 ≤ _
    rw [this]
    split
    · exact h.fwWide hX _ (hX.wide _)
    · exact h.wide i
end
end Go.Proofs.YtneeljhjfmcdoaaDoor
