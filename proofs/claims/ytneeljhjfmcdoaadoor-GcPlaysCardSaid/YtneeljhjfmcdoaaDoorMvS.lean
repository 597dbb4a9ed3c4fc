/- Moving objects, in plain Lean: what holds in the midst of a collection, and how each step keeps it. The order in which a shape meets objects, in plain Lean: the roots are in it, it is closed, and no more; sums of words. The end of a collection, in plain Lean: the heap that is left, its objects, its shape. -/
import Derived.Test.YtneeljhjfmcdoaaDoorLaid
import Derived.Test.YtneeljhjfmcdoaaDoorGraph
import Derived.Test.YtneeljhjfmcdoaaDoorTwin
/-! Moving objects, in plain Lean: what holds in the midst of a collection, and how each step keeps it. -/
namespace Go.Proofs.YtneeljhjfmcdoaaDoor

/-- An object's words. -/
def Hp.wd (S : Hp) (r : Int) : Int := 2 + S.num r
/-- No object has gone anywhere. -/
def Hp.Zero (S : Hp) : Prop := ∀ r, S.is r = true → S.A.getD r.toNat 0 = 0
def sumW (S : Hp) : List Int → Int
  | [] => 0
  | a :: t => S.wd a + sumW S t
theorem sumW_app (S : Hp) : ∀ a b : List Int, sumW S (a ++ b) = sumW S a + sumW S b
  | [], b => by simp [sumW]
  | x :: t, b => by simp only [List.cons_append, sumW, sumW_app S t b]; omega

/-- What a collection is about: the heap as it was (the space that is moved to at its beginning), all or the nursery alone, the space that is moved to. -/
structure Cx where
  S : Hp
  all : Bool
  tk : Nat
def Cx.frm (X : Cx) (a : Int) : Bool := X.S.is a && (X.all || X.S.inY a)
def Cx.T0 (X : Cx) : Int := (X.S.sp X.tk).top
def Cx.tp (X : Cx) : Int := (X.S.sp X.tk).to

structure Cx.Ok (X : Cx) : Prop where
  ok : X.S.Ok
  zero : X.S.Zero
  wide : X.S.Wide
  k3 : X.tk < 3
  k0 : X.tk ≠ 0

theorem Cx.is {X : Cx} {a : Int} (h : X.frm a = true) : X.S.is a = true := by
  simp only [Cx.frm, Bool.and_eq_true] at h; exact h.1

/-- The room that is moved to lies apart from all objects. -/
theorem Cx.Ok.away {X : Cx} (h : X.Ok) {a : Int} (ha : X.S.is a = true) : a + 1 + X.S.num a ≤ X.T0 ∨ X.tp ≤ a - 1 := by
  obtain ⟨hb, h1⟩ := is_bhas ha
  obtain ⟨k, hk, u1, u2⟩ := h.ok.used _ hb
  have e : (((a - 1).toNat : Nat) : Int) = a - 1 := by omega
  rw [e] at u1 u2
  have hn : unN (X.S.A.getD (a - 1).toNat 0) = X.S.num a := rfl
  rw [hn] at u2
  obtain ⟨s0, s1, s2, s3⟩ := h.ok.sp0 k
  obtain ⟨t0, t1, t2, t3⟩ := h.ok.sp0 X.tk
  unfold Cx.T0 Cx.tp
  by_cases hkt : k = X.tk
  · subst hkt; left; omega
  · rcases h.ok.apart hk h.k3 hkt with h2 | h2
    · left; omega
    · right; omega
/-- Two objects lie apart. -/
theorem objs_apart {S : Hp} (h : S.Ok) {a b : Int} (ha : S.is a = true) (hb : S.is b = true) (hne : a ≠ b) : a + 1 + S.num a ≤ b - 1 ∨ b + 1 + S.num b ≤ a - 1 := by
  obtain ⟨a1, a2⟩ := is_bhas ha
  obtain ⟨b1, b2⟩ := is_bhas hb
  rcases Nat.lt_or_ge (a - 1).toNat (b - 1).toNat with hl | hl
  · have := h.disj _ _ a1 b1 hl
    have e : S.num a = unN (S.A.getD (a - 1).toNat 0) := rfl
    left; omega
  · have := h.disj _ _ b1 a1 (by omega)
    have e : S.num b = unN (S.A.getD (b - 1).toNat 0) := rfl
    right; omega

/-- Where a number has gone. -/
def fwL (l : List (Int × Int)) (v : Int) : Int := ((l.find? fun p => p.1 == v).map Prod.snd).getD v
theorem fwL_not {l : List (Int × Int)} {v : Int} (h : v ∉ l.map Prod.fst) : fwL l v = v := by
  unfold fwL
  rw [List.find?_eq_none.2 (fun p hp => by
    simp only [beq_iff_eq]
    intro e
    exact h (List.mem_map.2 ⟨p, hp, e⟩))]
  rfl
theorem fwL_mem : ∀ {l : List (Int × Int)} {a b : Int}, (l.map Prod.fst).Nodup → (a, b) ∈ l → fwL l a = b
  | [], _, _, _, h => by simp at h
  | p :: t, a, b, hn, h => by
    rw [List.map_cons, List.nodup_cons] at hn
    unfold fwL
    rcases List.mem_cons.1 h with e | h1
    · subst e; simp
    · have : p.1 ≠ a := by
        intro e
        exact hn.1 (e ▸ List.mem_map.2 ⟨(a, b), h1, rfl⟩)
      rw [List.find?_cons_of_neg (by simpa using this)]
      exact fwL_mem hn.2 h1
theorem fwL_some {l : List (Int × Int)} {v : Int} (h : v ∈ l.map Prod.fst) : (v, fwL l v) ∈ l := by
  obtain ⟨p, hp, e⟩ := List.mem_map.1 h
  unfold fwL
  cases hf : l.find? fun p => p.1 == v with
  | none => exact absurd e (by simpa using List.find?_eq_none.1 hf p hp)
  | some q =>
    have h1 := List.mem_of_find?_eq_some hf
    have h2 := List.find?_some hf
    simp only [beq_iff_eq] at h2
    show (v, q.2) ∈ l
    rw [← h2]; exact h1
theorem fwL_snoc_old {l : List (Int × Int)} {v : Int} (p : Int × Int) (h : v ∈ l.map Prod.fst) : fwL (l ++ [p]) v = fwL l v := by
  obtain ⟨q, hq, e⟩ := List.mem_map.1 h
  unfold fwL
  rw [List.find?_append]
  cases hf : l.find? fun p => p.1 == v with
  | none => exact absurd e (by simpa using List.find?_eq_none.1 hf q hq)
  | some r => rfl

/-- The midst of a collection: the words, how far the room is used, who has gone where, who is still to be looked through. -/
structure Mv where
  A : List Int
  top : Int
  mv : List (Int × Int)
  work : List Int

/-- Object a's (new) place is b. -/
def Mv.Img (X : Cx) (M : Mv) (a b : Int) : Prop := (a, b) ∈ M.mv ∨ (X.S.is a = true ∧ X.frm a = false ∧ a = b)

structure Mv.Ok (X : Cx) (Lv : List Int) (sc : Int → Nat → Bool) (M : Mv) : Prop where
  len : M.A.length = X.S.A.length
  nd : (M.mv.map Prod.fst).Nodup
  frm : ∀ a b, (a, b) ∈ M.mv → X.frm a = true ∧ a ∈ Lv
  bd : ∀ a b, (a, b) ∈ M.mv → X.T0 + 1 ≤ b ∧ b + 1 + X.S.num a ≤ M.top
  dj : M.mv.Pairwise (fun p q => p.2 + 1 + X.S.num p.1 < q.2)
  top : M.top = X.T0 + sumW X.S (M.mv.map Prod.fst)
  tp : M.top ≤ X.tp
  unm : ∀ a, X.frm a = true → a ∉ M.mv.map Prod.fst → ∀ i, a - 1 ≤ i → i < a + 1 + X.S.num a → M.A.getD i.toNat 0 = X.S.A.getD i.toNat 0
  mvd : ∀ a b, (a, b) ∈ M.mv → M.A.getD a.toNat 0 = b ∧ M.A.getD (a - 1).toNat 0 = X.S.A.getD (a - 1).toNat 0
  img : ∀ a b, M.Img X a b → M.A.getD (b - 1).toNat 0 = X.S.A.getD (a - 1).toNat 0 ∧ M.A.getD b.toNat 0 = 0 ∧
    ∀ j : Nat, (j : Int) < X.S.num a → M.A.getD (b + 1 + j).toNat 0 = if (sc b j && X.S.refB a j) = true then fwL M.mv (X.S.get a j) else X.S.get a j
  scm : ∀ a b, M.Img X a b → ∀ j : Nat, (j : Int) < X.S.num a → sc b j = true → X.S.refB a j = true → X.frm (X.S.get a j) = true → X.S.get a j ∈ M.mv.map Prod.fst
  scn : ∀ b j, sc b j = true → b ≤ M.top ∨ X.tp < b
  wide : ∀ i : Nat, -9223372036854775808 ≤ M.A.getD i 0 ∧ M.A.getD i 0 ≤ 9223372036854775807

section
variable {X : Cx} {Lv : List Int} {sc : Int → Nat → Bool} {M : Mv}

theorem Mv.Ok.start (hX : X.Ok) (Lv : List Int) : (⟨X.S.A, X.T0, [], []⟩ : Mv).Ok X Lv (fun _ _ => false) := by
  have h0 := hX.ok.sp0 X.tk
  refine ⟨rfl, List.nodup_nil, by simp, by simp, List.Pairwise.nil, by simp [sumW], by show X.T0 ≤ X.tp; unfold Cx.T0 Cx.tp; omega, fun _ _ _ _ _ _ => rfl, by simp, ?_, by simp, by simp, hX.wide⟩
  rintro a b (h | ⟨h1, _, rfl⟩)
  · simp at h
  · exact ⟨rfl, hX.zero a h1, fun j _ => by simp [Hp.get]⟩

/-- Whose place is the same is the same. -/
theorem Mv.Ok.inj (hX : X.Ok) (h : M.Ok X Lv sc) {a a' b : Int} (h1 : M.Img X a b) (h2 : M.Img X a' b) : a = a' := by
  have key : ∀ {a a' : Int}, (a, b) ∈ M.mv → (a', b) ∈ M.mv → a = a' := by
    intro a a' k1 k2
    obtain ⟨i, hi, e1⟩ := List.mem_iff_getElem.1 k1
    obtain ⟨j, hj, e2⟩ := List.mem_iff_getElem.1 k2
    have hd := List.pairwise_iff_getElem.1 h.dj
    have n1 : 0 ≤ X.S.num a := unN_nonneg _
    have n2 : 0 ≤ X.S.num a' := unN_nonneg _
    rcases Nat.lt_trichotomy i j with hl | hl | hl
    · have := hd i j hi hj hl
      rw [e1, e2] at this; simp only at this; omega
    · subst hl
      have e := e1.symm.trans e2
      injection e
    · have := hd j i hj hi hl
      rw [e1, e2] at this; simp only at this; omega
  have mix : ∀ {a a' : Int}, (a, b) ∈ M.mv → X.S.is a' = true → a' = b → False := by
    intro a a' k1 k2 k3
    subst k3
    have b1 := h.bd _ _ k1
    have b2 := h.tp
    have n1 : 0 ≤ X.S.num a := unN_nonneg _
    have n2 : 0 ≤ X.S.num a' := unN_nonneg _
    rcases hX.away k2 with h3 | h3 <;> omega
  rcases h1 with h1 | ⟨p1, _, e1⟩ <;> rcases h2 with h2 | ⟨p2, _, e2⟩
  · exact key h1 h2
  · exact (mix h1 p2 e2).elim
  · exact (mix h2 p1 e1).elim
  · rw [e1, e2]

/-- Where an object's words lie: in the room, or where they lay. -/
theorem Mv.Ok.place (hX : X.Ok) (h : M.Ok X Lv sc) {a b : Int} (hi : M.Img X a b) : X.S.is a = true ∧ 1 ≤ b ∧ b + 1 + X.S.num a ≤ M.A.length := by
  rcases hi with h1 | ⟨p1, _, rfl⟩
  · have h2 := h.bd _ _ h1
    have h3 := h.tp
    have h4 := hX.ok.sp0 X.tk
    have h5 := h.len
    unfold Cx.T0 at h2
    unfold Cx.tp at h3
    exact ⟨X.is (h.frm _ _ h1).1, by omega, by omega⟩
  · have h2 := hX.ok.le p1
    have h5 := h.len
    exact ⟨p1, by omega, by omega⟩
/-- Two places' words lie apart. -/
theorem Mv.Ok.apart (hX : X.Ok) (h : M.Ok X Lv sc) {a b a' b' : Int} (h1 : M.Img X a b) (h2 : M.Img X a' b') (hne : b ≠ b') : b + 1 + X.S.num a ≤ b' - 1 ∨ b' + 1 + X.S.num a' ≤ b - 1 := by
  have mix : ∀ {a b a' b' : Int}, (a, b) ∈ M.mv → X.S.is a' = true → a' = b' → b + 1 + X.S.num a ≤ b' - 1 ∨ b' + 1 + X.S.num a' ≤ b - 1 := by
    intro a b a' b' k1 k2 k3
    subst k3
    have b1 := h.bd _ _ k1
    have b2 := h.tp
    rcases hX.away k2 with h3 | h3
    · right; omega
    · left; omega
  rcases h1 with k1 | ⟨p1, q1, rfl⟩ <;> rcases h2 with k2 | ⟨p2, q2, rfl⟩
  · obtain ⟨i, hi, e1⟩ := List.mem_iff_getElem.1 k1
    obtain ⟨j, hj, e2⟩ := List.mem_iff_getElem.1 k2
    have hd := List.pairwise_iff_getElem.1 h.dj
    rcases Nat.lt_trichotomy i j with hl | hl | hl
    · have := hd i j hi hj hl
      rw [e1, e2] at this; simp only at this; left; omega
    · subst hl
      have e := e1.symm.trans e2
      injection e with _ e4
      exact absurd e4 hne
    · have := hd j i hj hi hl
      rw [e1, e2] at this; simp only at this; right; omega
  · exact mix k1 p2 rfl
  · exact (mix k2 p1 rfl).symm
  · exact objs_apart hX.ok p1 p2 hne

/-- A place's words, and those of an object that is to be moved away, lie apart. -/
theorem Mv.Ok.apart0 (hX : X.Ok) (h : M.Ok X Lv sc) {a b r : Int} (h1 : M.Img X a b) (hr : X.frm r = true) : b + 1 + X.S.num a ≤ r - 1 ∨ r + 1 + X.S.num r ≤ b - 1 := by
  rcases h1 with k1 | ⟨p1, q1, rfl⟩
  · have b1 := h.bd _ _ k1
    have b2 := h.tp
    rcases hX.away (X.is hr) with h3 | h3
    · right; omega
    · left; omega
  · exact objs_apart hX.ok p1 (X.is hr) (fun e => by rw [e, hr] at q1; cases q1)

/-- An object is moved. -/
def Mv.new (X : Cx) (M : Mv) (r : Int) : Mv :=
  ⟨(splice M.A M.top.toNat ((M.A.drop (r - 1).toNat).take (X.S.wd r).toNat)).set r.toNat (M.top + 1), M.top + X.S.wd r, M.mv ++ [(r, M.top + 1)], M.work ++ [M.top + 1]⟩

theorem new_get (hX : X.Ok) (h : M.Ok X Lv sc) {r : Int} (hr : X.frm r = true) (hroom : M.top + X.S.wd r ≤ X.tp) (i : Int) (hi : 0 ≤ i) :
    (M.new X r).A.getD i.toNat 0 = if i = r then M.top + 1 else if M.top ≤ i ∧ i < M.top + X.S.wd r then M.A.getD (r - 1 + (i - M.top)).toNat 0 else M.A.getD i.toNat 0 := by
  have h1 := hX.ok.le (X.is hr)
  have h4 := hX.ok.sp0 X.tk
  have h5 := h.len
  have h6 := h.top
  have hT : X.T0 ≤ M.top := by
    rw [h.top]
    have : ∀ l : List Int, 0 ≤ sumW X.S l := by
      intro l
      induction l with
      | nil => exact Int.le_refl _
      | cons a t ih =>
        have : 0 ≤ X.S.num a := unN_nonneg _
        simp only [sumW, Hp.wd]; omega
    have := this (M.mv.map Prod.fst)
    omega
  unfold Cx.T0 at hT
  unfold Cx.tp at hroom
  unfold Hp.wd at *
  have hl : ((M.A.drop (r - 1).toNat).take (2 + X.S.num r).toNat).length = (2 + X.S.num r).toNat := by
    rw [List.length_take, List.length_drop]; omega
  have hsl : (splice M.A M.top.toNat ((M.A.drop (r - 1).toNat).take (2 + X.S.num r).toNat)).length = M.A.length := length_splice _ _ _ (by rw [hl]; omega)
  show ((splice M.A M.top.toNat ((M.A.drop (r - 1).toNat).take (2 + X.S.num r).toNat)).set r.toNat (M.top + 1)).getD i.toNat 0 = _
  rw [getD_set _ _ _ _ (by rw [hsl]; omega)]
  by_cases hir : i = r
  · rw [if_pos (by omega), if_pos hir]
  · rw [if_neg (by omega), if_neg hir, getD_splice _ _ _ _ (by rw [hl]; omega), hl]
    by_cases hin : M.top ≤ i ∧ i < M.top + (2 + X.S.num r)
    · rw [if_pos (by omega), if_pos hin]
      simp only [List.getD_eq_getElem?_getD]
      rw [List.getElem?_take_of_lt (by omega), List.getElem?_drop]
      congr 2; omega
    · rw [if_neg (by omega), if_neg hin]

theorem Mv.Ok.low (h : M.Ok X Lv sc) : X.T0 ≤ M.top := by
  rw [h.top]
  have : ∀ l : List Int, 0 ≤ sumW X.S l := by
    intro l
    induction l with
    | nil => exact Int.le_refl _
    | cons a t ih =>
      have : 0 ≤ X.S.num a := unN_nonneg _
      simp only [sumW, Hp.wd]; omega
  have := this (M.mv.map Prod.fst)
  omega

theorem Mv.Ok.new (hX : X.Ok) (h : M.Ok X Lv sc) {r : Int} (hr : X.frm r = true) (hl : r ∈ Lv) (hno : r ∉ M.mv.map Prod.fst) (hroom : M.top + X.S.wd r ≤ X.tp) : (M.new X r).Ok X Lv sc := by
  have hg := new_get hX h hr hroom
  have hris := X.is hr
  have hrle := hX.ok.le hris
  have hraw := hX.away hris
  have hlow := h.low
  have ht0 : 0 ≤ X.T0 := by have := hX.ok.sp0 X.tk; unfold Cx.T0; omega
  have hwd : X.S.wd r = 2 + X.S.num r := rfl
  have hmem : ∀ a b, (a, b) ∈ (M.new X r).mv ↔ (a, b) ∈ M.mv ∨ (a = r ∧ b = M.top + 1) := by
    intro a b
    show (a, b) ∈ M.mv ++ [(r, M.top + 1)] ↔ _
    simp
  have hfst : (M.new X r).mv.map Prod.fst = M.mv.map Prod.fst ++ [r] := by show (M.mv ++ [(r, M.top + 1)]).map Prod.fst = _; simp
  have hfr_r : ∀ a b, (a, b) ∈ M.mv → a ≠ r := fun a b hm e => hno (e ▸ List.mem_map.2 ⟨(a, b), hm, rfl⟩)
  -- words that are neither r's own nor of the room are what they were
  have keep : ∀ i, 0 ≤ i → i ≠ r → ¬ (M.top ≤ i ∧ i < M.top + X.S.wd r) → (M.new X r).A.getD i.toNat 0 = M.A.getD i.toNat 0 := by
    intro i h0 h1 h2
    rw [hg i h0, if_neg h1, if_neg h2]
  have himg : ∀ a b, (M.new X r).Img X a b ↔ M.Img X a b ∨ (a = r ∧ b = M.top + 1) := by
    intro a b
    unfold Mv.Img
    rw [hmem]
    constructor
    · rintro ((h1 | h1) | h1)
      · exact .inl (.inl h1)
      · exact .inr h1
      · exact .inl (.inr h1)
    · rintro ((h1 | h1) | h1)
      · exact .inl (.inl h1)
      · exact .inr h1
      · exact .inl (.inr h1)
  have hfw : ∀ v, (X.frm v = true → v ∈ M.mv.map Prod.fst) → fwL (M.new X r).mv v = fwL M.mv v := by
    intro v hv
    show fwL (M.mv ++ [(r, M.top + 1)]) v = _
    by_cases hm : v ∈ M.mv.map Prod.fst
    · exact fwL_snoc_old _ hm
    · have hvr : v ≠ r := fun e => hm (hv (e ▸ hr))
      rw [fwL_not hm, fwL_not]
      simp only [List.map_append, List.mem_append, List.map_cons, List.map_nil, List.mem_singleton, not_or]
      exact ⟨hm, hvr⟩
  refine ⟨?_, ?_, ?_, ?_, ?_, ?_, ?_, ?_, ?_, ?_, ?_, ?_, ?_⟩
  · show ((splice M.A M.top.toNat ((M.A.drop (r - 1).toNat).take (X.S.wd r).toNat)).set r.toNat (M.top + 1)).length = _
    rw [List.length_set, length_splice, h.len]
    rw [List.length_take, List.length_drop]
    have h4 := hX.ok.sp0 X.tk
    have h5 := h.len
    unfold Cx.tp at hroom
    omega
  · rw [hfst, List.nodup_append]
    exact ⟨h.nd, by simp, fun a ha b hb e => by simp at hb; exact hno (hb ▸ e ▸ ha)⟩
  · intro a b hm
    rcases (hmem a b).1 hm with h1 | ⟨rfl, _⟩
    · exact h.frm a b h1
    · exact ⟨hr, hl⟩
  · intro a b hm
    show _ ∧ _ ≤ M.top + X.S.wd r
    rcases (hmem a b).1 hm with h1 | ⟨rfl, rfl⟩
    · have := h.bd a b h1
      exact ⟨this.1, by omega⟩
    · exact ⟨by omega, by omega⟩
  · show (M.mv ++ [(r, M.top + 1)]).Pairwise _
    rw [List.pairwise_append]
    refine ⟨h.dj, List.pairwise_singleton _ _, fun p hp q hq => ?_⟩
    simp at hq
    subst hq
    have := (h.bd p.1 p.2 hp).2
    show p.2 + 1 + X.S.num p.1 < M.top + 1
    omega
  · rw [hfst, sumW_app]
    have := h.top
    show M.top + X.S.wd r = _
    simp only [sumW]; omega
  · exact hroom
  · intro a ha hna i h1 h2
    rw [hfst] at hna
    simp only [List.mem_append, List.mem_singleton, not_or] at hna
    have hale := hX.ok.le (X.is ha)
    have haw := hX.away (X.is ha)
    rw [keep i (by omega) ?_ ?_]
    · exact h.unm a ha hna.1 i h1 h2
    · rcases objs_apart hX.ok (X.is ha) hris hna.2 with h3 | h3 <;> omega
    · have := h.tp; omega
  · intro a b hm
    rcases (hmem a b).1 hm with h1 | ⟨rfl, rfl⟩
    · have hf := (h.frm a b h1).1
      have hale := hX.ok.le (X.is hf)
      have haw := hX.away (X.is hf)
      have hap := objs_apart hX.ok (X.is hf) hris (hfr_r a b h1)
      have := h.tp
      rw [keep a (by omega) (hfr_r a b h1) (by omega), keep (a - 1) (by omega) (by omega) (by omega)]
      exact h.mvd a b h1
    · have := h.tp
      rw [hg a (by omega), if_pos rfl, keep (a - 1) (by omega) (by omega) (by omega)]
      exact ⟨rfl, h.unm a hr hno _ (Int.le_refl _) (by omega)⟩
  · intro a b hi
    rcases (himg a b).1 hi with h1 | ⟨rfl, rfl⟩
    · obtain ⟨hais, hb1, hb2⟩ := h.place hX h1
      have hn : 0 ≤ X.S.num a := unN_nonneg _
      have hap := h.apart0 hX h1 hr
      have hout : b + 1 + X.S.num a ≤ M.top ∨ M.top + X.S.wd r ≤ b - 1 := by
        rcases h1 with k1 | ⟨p1, _, rfl⟩
        · left; exact (h.bd _ _ k1).2
        · rcases hX.away p1 with h3 | h3
          · left; omega
          · right; omega
      obtain ⟨i1, i2, i3⟩ := h.img a b h1
      rw [keep (b - 1) (by omega) (by omega) (by omega), keep b (by omega) (by omega) (by omega)]
      refine ⟨i1, i2, fun j hj => ?_⟩
      rw [keep (b + 1 + j) (by omega) (by omega) (by omega), i3 j hj]
      by_cases hs : (sc b j && X.S.refB a j) = true
      · rw [if_pos hs, if_pos hs]
        simp only [Bool.and_eq_true] at hs
        exact (hfw _ (fun hv => h.scm a b h1 j hj hs.1 hs.2 hv)).symm
      · rw [if_neg hs, if_neg hs]
    · have htp := h.tp
      have hunm := h.unm a hr hno
      rw [hg (M.top + 1 - 1) (by omega), if_neg (by omega), if_pos (by omega), hg (M.top + 1) (by omega), if_neg (by omega), if_pos (by omega)]
      rw [show a - 1 + (M.top + 1 - 1 - M.top) = a - 1 by omega, show a - 1 + (M.top + 1 - M.top) = a by omega]
      refine ⟨hunm _ (Int.le_refl _) (by omega), ?_, fun j hj => ?_⟩
      · rw [hunm a (by omega) (by omega)]
        exact hX.zero a hris
      · have hsc : sc (M.top + 1) j = false := by
          cases hs : sc (M.top + 1) j with
          | false => rfl
          | true =>
            rcases h.scn _ _ hs with h3 | h3 <;> omega
        rw [hsc, Bool.false_and, if_neg (by simp), hg _ (by omega), if_neg (by omega), if_pos (by omega)]
        rw [show a - 1 + (M.top + 1 + 1 + (j : Int) - M.top) = a + 1 + j by omega, hunm _ (by omega) (by omega)]
        rfl
  · intro a b hi j hj hs hb hv
    rw [hfst, List.mem_append]
    rcases (himg a b).1 hi with h1 | ⟨rfl, rfl⟩
    · exact .inl (h.scm a b h1 j hj hs hb hv)
    · exfalso
      rcases h.scn _ _ hs with h3 | h3 <;> omega
  · intro b j hs
    show b ≤ M.top + X.S.wd r ∨ _
    rcases h.scn b j hs with h3 | h3
    · left; omega
    · exact .inr h3
  · intro i
    have h4 := hX.ok.sp0 X.tk
    have h5 := hX.ok.len
    have := hg i (by omega)
    rw [Int.toNat_natCast] at this
    rw [this]
    unfold Cx.tp at hroom
    split
    · omega
    · split
      · exact h.wide _
      · exact h.wide i

theorem Mv.Ok.fwWide (hX : X.Ok) (h : M.Ok X Lv sc) (v : Int) (hv : -9223372036854775808 ≤ v ∧ v ≤ 9223372036854775807) : -9223372036854775808 ≤ fwL M.mv v ∧ fwL M.mv v ≤ 9223372036854775807 := by
  by_cases hm : v ∈ M.mv.map Prod.fst
  · have h1 := h.bd _ _ (fwL_some hm)
    have h2 := h.tp
    have h3 := hX.ok.sp0 X.tk
    have h4 := hX.ok.len
    have h5 : 0 ≤ X.S.num v := unN_nonneg _
    unfold Cx.T0 at h1
    unfold Cx.tp at h2
    omega
  · rw [fwL_not hm]; exact hv

/-- One more value is looked at. -/
def sc1 (sc : Int → Nat → Bool) (b : Int) (j : Nat) : Int → Nat → Bool := fun x k => sc x k || (decide (x = b) && decide (k = j))

theorem Mv.Ok.scn' (hX : X.Ok) (h : M.Ok X Lv sc) {a b : Int} (hi : M.Img X a b) : b ≤ M.top ∨ X.tp < b := by
  have hn : 0 ≤ X.S.num a := unN_nonneg _
  have := h.low
  rcases hi with h1 | ⟨p1, _, rfl⟩
  · left; have := (h.bd _ _ h1).2; omega
  · rcases hX.away p1 with h3 | h3
    · left; omega
    · right; omega

/-- It is no reference. -/
theorem Mv.Ok.skip (hX : X.Ok) (h : M.Ok X Lv sc) {a b : Int} (hi : M.Img X a b) (j : Nat) (hno : X.S.refB a j = false) : M.Ok X Lv (sc1 sc b j) := by
  refine ⟨h.len, h.nd, h.frm, h.bd, h.dj, h.top, h.tp, h.unm, h.mvd, ?_, ?_, ?_, h.wide⟩
  · intro a' b' hi'
    obtain ⟨i1, i2, i3⟩ := h.img a' b' hi'
    refine ⟨i1, i2, fun k hk => ?_⟩
    rw [i3 k hk]
    by_cases he : b' = b ∧ k = j
    · obtain ⟨rfl, rfl⟩ := he
      obtain rfl := h.inj hX hi hi'
      rw [hno, Bool.and_false, Bool.and_false]
    · have : sc1 sc b j b' k = sc b' k := by
        unfold sc1
        by_cases h1 : b' = b
        · rw [decide_eq_false (fun h2 => he ⟨h1, h2⟩), Bool.and_false, Bool.or_false]
        · rw [decide_eq_false h1, Bool.false_and, Bool.or_false]
      rw [this]
  · intro a' b' hi' k hk hs hb hv
    unfold sc1 at hs
    rw [Bool.or_eq_true] at hs
    rcases hs with hs | hs
    · exact h.scm a' b' hi' k hk hs hb hv
    · simp only [Bool.and_eq_true, decide_eq_true_eq] at hs
      obtain ⟨rfl, rfl⟩ := hs
      obtain rfl := h.inj hX hi hi'
      rw [hno] at hb; cases hb
  · intro b' k hs
    unfold sc1 at hs
    rw [Bool.or_eq_true] at hs
    rcases hs with hs | hs
    · exact h.scn b' k hs
    · simp only [Bool.and_eq_true, decide_eq_true_eq] at hs
      obtain ⟨rfl, rfl⟩ := hs
      exact h.scn' hX hi

/-- It is one: where it has gone is laid. -/
theorem Mv.Ok.put (hX : X.Ok) (h : M.Ok X Lv sc) {a b : Int} (hi : M.Img X a b) (j : Nat) (hj : (j : Int) < X.S.num a) (hrf : X.S.refB a j = true) (hm : X.frm (X.S.get a j) = true → X.S.get a j ∈ M.mv.map Prod.fst) :
    ({ M with A := M.A.set (b + 1 + j).toNat (fwL M.mv (X.S.get a j)) } : Mv).Ok X Lv (sc1 sc b j) := by
  obtain ⟨hais, hb1, hb2⟩ := h.place hX hi
  have hg : ∀ i, 0 ≤ i → (M.A.set (b + 1 + j).toNat (fwL M.mv (X.S.get a j))).getD i.toNat 0 = if i = b + 1 + j then fwL M.mv (X.S.get a j) else M.A.getD i.toNat 0 := by
    intro i h0
    rw [getD_set _ _ _ _ (by omega)]
    by_cases he : i = b + 1 + j
    · rw [if_pos (by omega), if_pos he]
    · rw [if_neg (by omega), if_neg he]
  have hImg : ∀ a' b', ({ M with A := M.A.set (b + 1 + j).toNat (fwL M.mv (X.S.get a j)) } : Mv).Img X a' b' ↔ M.Img X a' b' := fun _ _ => Iff.rfl
  refine ⟨by show (M.A.set _ _).length = _; rw [List.length_set]; exact h.len, h.nd, h.frm, h.bd, h.dj, h.top, h.tp, ?_, ?_, ?_, ?_, ?_, ?_⟩
  · intro a' ha hna i h1 h2
    have hale := hX.ok.le (X.is ha)
    have hap := h.apart0 hX hi ha
    show (M.A.set _ _).getD _ _ = _
    rw [hg i (by omega), if_neg (by omega)]
    exact h.unm a' ha hna i h1 h2
  · intro a' b' hm'
    have hf := (h.frm a' b' hm').1
    have hale := hX.ok.le (X.is hf)
    have hap := h.apart0 hX hi hf
    show (M.A.set _ _).getD _ _ = _ ∧ (M.A.set _ _).getD _ _ = _
    rw [hg a' (by omega), if_neg (by omega), hg (a' - 1) (by omega), if_neg (by omega)]
    exact h.mvd a' b' hm'
  · intro a' b' hi'
    have hi' := (hImg a' b').1 hi'
    obtain ⟨i1, i2, i3⟩ := h.img a' b' hi'
    obtain ⟨hais', hb1', hb2'⟩ := h.place hX hi'
    have hn' : 0 ≤ X.S.num a' := unN_nonneg _
    show (M.A.set _ _).getD _ _ = _ ∧ (M.A.set _ _).getD _ _ = _ ∧ ∀ k : Nat, (k : Int) < X.S.num a' → (M.A.set _ _).getD _ _ = _
    by_cases hbb : b' = b
    · subst hbb
      obtain rfl := h.inj hX hi hi'
      rw [hg (b' - 1) (by omega), if_neg (by omega), hg b' (by omega), if_neg (by omega)]
      refine ⟨i1, i2, fun k hk => ?_⟩
      rw [hg _ (by omega)]
      by_cases hkj : k = j
      · subst hkj
        rw [if_pos rfl]
        rw [hrf, Bool.and_true, if_pos (by unfold sc1; simp)]
      · rw [if_neg (by omega), i3 k hk]
        have : sc1 sc b' j b' k = sc b' k := by unfold sc1; rw [decide_eq_false hkj, Bool.and_false, Bool.or_false]
        rw [this]
    · have hap := h.apart hX hi hi' (fun e => hbb e.symm)
      rw [hg (b' - 1) (by omega), if_neg (by omega), hg b' (by omega), if_neg (by omega)]
      refine ⟨i1, i2, fun k hk => ?_⟩
      rw [hg _ (by omega), if_neg (by omega), i3 k hk]
      have : sc1 sc b j b' k = sc b' k := by unfold sc1; rw [decide_eq_false hbb, Bool.false_and, Bool.or_false]
      rw [this]
  · intro a' b' hi' k hk hs hb hv
    have hi' := (hImg a' b').1 hi'
    unfold sc1 at hs
    rw [Bool.or_eq_true] at hs
    rcases hs with hs | hs
    · exact h.scm a' b' hi' k hk hs hb hv
    · simp only [Bool.and_eq_true, decide_eq_true_eq] at hs
      obtain ⟨rfl, rfl⟩ := hs
      obtain rfl := h.inj hX hi hi'
      exact hm hv
  · intro b' k hs
    unfold sc1 at hs
    rw [Bool.or_eq_true] at hs
    rcases hs with hs | hs
    · exact h.scn b' k hs
    · simp only [Bool.and_eq_true, decide_eq_true_eq] at hs
      obtain ⟨rfl, rfl⟩ := hs
      exact h.scn' hX hi
  · intro i
    have := hg i (by omega)
    rw [Int.toNat_natCast] at this
    show _ ≤ (M.A.set _ _).getD i 0 ∧ (M.A.set _ _).getD i 0 ≤ _
    rw [this]
    split
    · exact h.fwWide hX _ (hX.wide _)
    · exact h.wide i
end
end Go.Proofs.YtneeljhjfmcdoaaDoor

/-! The order in which a shape meets objects, in plain Lean: the roots are in it, it is closed, and no more; sums of words. The end of a collection, in plain Lean: the heap that is left, its objects, its shape. -/
/-! The order in which a shape meets objects, in plain Lean: the roots are in it, it is closed, and no more; sums of words. -/
namespace Go.Proofs.YtneeljhjfmcdoaaDoor

theorem erase_sum (f : Int → Int) (a : Int) : ∀ L : List Int, a ∈ L → (L.map f).sum = f a + ((L.erase a).map f).sum
  | [], h => by simp at h
  | b :: t, h => by
    by_cases hb : b = a
    · subst hb; simp
    · have ht : a ∈ t := by
        rcases List.mem_cons.1 h with e | e
        · exact absurd e.symm hb
        · exact e
      have ih := erase_sum f a t ht
      rw [List.erase_cons_tail (by simpa using hb)]
      simp only [List.map_cons, List.sum_cons, ih]
      omega
theorem mem_perm_le (f : Int → Int) (h0 : ∀ a, 0 ≤ f a) : ∀ (l L : List Int), l.Nodup → (∀ a ∈ l, a ∈ L) → (l.map f).sum ≤ (L.map f).sum
  | [], L, _, _ => by
    have : ∀ L : List Int, 0 ≤ (L.map f).sum := by
      intro L
      induction L with
      | nil => simp
      | cons a t ih => simp only [List.map_cons, List.sum_cons]; have := h0 a; omega
    simpa using this L
  | a :: t, L, hn, hs => by
    rw [List.nodup_cons] at hn
    have ha := hs a (by simp)
    have h1 := mem_perm_le f h0 t (L.erase a) hn.2 (fun b hb => by
      have hne : b ≠ a := fun e => hn.1 (e ▸ hb)
      exact (List.mem_erase_of_ne hne).2 (hs b (by simp [hb])))
    have h2 : (L.map f).sum = f a + ((L.erase a).map f).sum := by
      exact erase_sum f a L ha
    simp only [List.map_cons, List.sum_cons]
    omega
theorem sumW_sum (S : Hp) : ∀ l : List Int, sumW S l = (l.map S.wd).sum
  | [] => by simp [sumW]
  | a :: t => by simp only [sumW, List.map_cons, List.sum_cons, sumW_sum S t]
theorem wd_pos (S : Hp) (a : Int) : 2 ≤ S.wd a := by
  have : 0 ≤ S.num a := unN_nonneg _
  unfold Hp.wd; omega
theorem sumW_le (S : Hp) {l L : List Int} (hn : l.Nodup) (hs : ∀ a ∈ l, a ∈ L) : sumW S l ≤ sumW S L := by
  rw [sumW_sum, sumW_sum]
  exact mem_perm_le _ (fun a => by have := wd_pos S a; omega) l L hn hs
theorem sumW_eq (S : Hp) {l L : List Int} (hn : l.Nodup) (hL : L.Nodup) (h1 : ∀ a ∈ l, a ∈ L) (h2 : ∀ a ∈ L, a ∈ l) : sumW S l = sumW S L := by
  have := sumW_le S hn h1
  have := sumW_le S hL h2
  omega
/-- Objects in a row, apart, between two words. -/
theorem sumW_row (S : Hp) (hi : Int) : ∀ (l : List Int) (lo : Int), l.Pairwise (fun a b => a + 1 + S.num a ≤ b - 1) → (∀ a ∈ l, lo ≤ a - 1 ∧ a + 1 + S.num a ≤ hi) → lo ≤ hi → sumW S l ≤ hi - lo
  | [], lo, _, _, h => by simp only [sumW]; omega
  | a :: t, lo, hp, hb, h => by
    rw [List.pairwise_cons] at hp
    have ha := hb a (by simp)
    have ih := sumW_row S hi t (a + 1 + S.num a) hp.2 (fun b hbt => ⟨hp.1 b hbt, (hb b (by simp [hbt])).2⟩) ha.2
    simp only [sumW, Hp.wd]
    omega
/-- The nursery's objects, rising. -/
def Hp.youngs (S : Hp) : List Int := ((List.range S.A.length).map fun (x : Nat) => (x : Int)).filter fun a => S.inY a
theorem Hp.Ok.lt {S : Hp} (h : S.Ok) {r : Int} (hr : S.is r = true) : 0 ≤ r ∧ r < (S.A.length : Int) := by
  have := h.le hr
  omega
theorem inY_is {S : Hp} {a : Int} (h : S.inY a = true) : S.is a = true ∧ S.y.fr ≤ a - 1 ∧ a - 1 < S.y.top := by
  simp only [Hp.inY, Bool.and_eq_true, decide_eq_true_eq] at h; exact h
theorem inY_end {S : Hp} (hS : S.Ok) {a : Int} (h : S.inY a = true) : a + 1 + S.num a ≤ S.y.top := by
  obtain ⟨h1, h2, h3⟩ := inY_is h
  obtain ⟨hb, h4⟩ := is_bhas h1
  obtain ⟨k, hk, u1, u2⟩ := hS.used _ hb
  have e : (((a - 1).toNat : Nat) : Int) = a - 1 := by omega
  have hn : unN (S.A.getD (a - 1).toNat 0) = S.num a := rfl
  rw [e] at u1 u2
  rw [hn] at u2
  by_cases hk0 : k = 0
  · subst hk0
    have e : (S.sp 0) = S.y := rfl
    rw [e] at u2; omega
  · have hn : 0 ≤ S.num a := unN_nonneg _
    have e : (S.sp 0) = S.y := rfl
    have s0 := hS.sp0 k
    have s1 := hS.sp0 0
    rcases hS.apart (by omega : 0 < 3) hk (fun e => hk0 e.symm) with h5 | h5
    · rw [e] at h5 s1; omega
    · rw [e] at h5 s1; omega
theorem mem_youngs {S : Hp} (hS : S.Ok) {a : Int} : a ∈ S.youngs ↔ S.inY a = true := by
  unfold Hp.youngs
  rw [List.mem_filter, List.mem_map]
  constructor
  · exact fun h => h.2
  · intro h
    refine ⟨⟨a.toNat, ?_, ?_⟩, h⟩
    · have := hS.lt (inY_is h).1
      rw [List.mem_range]; omega
    · have := hS.lt (inY_is h).1
      omega
theorem sum_youngs {S : Hp} (hS : S.Ok) : sumW S S.youngs ≤ S.y.top - S.y.fr := by
  refine sumW_row S S.y.top _ S.y.fr ?_ ?_ hS.y1
  · have h1 : ((List.range S.A.length).map fun (x : Nat) => (x : Int)).Pairwise (· < ·) := by
      rw [List.pairwise_map]
      exact (List.pairwise_lt_range (n := S.A.length)).imp (by intro a b h; omega)
    have h2 : S.youngs.Pairwise (· < ·) := h1.filter _
    refine List.Pairwise.imp_of_mem ?_ h2
    intro a b ha hb hlt
    have ia := (inY_is ((mem_youngs hS).1 ha)).1
    have ib := (inY_is ((mem_youngs hS).1 hb)).1
    have n1 : 0 ≤ S.num a := unN_nonneg _
    have n2 : 0 ≤ S.num b := unN_nonneg _
    rcases objs_apart hS ia ib (by omega) with h3 | h3 <;> omega
  · intro a ha
    have h := (mem_youngs hS).1 ha
    exact ⟨(inY_is h).2.1, inY_end hS h⟩

/-! The order of a shape. -/
def Gr.od (G : Gr) (n : Nat) (rs : List Int) : List Int := (G.outN n ([], (G.roots rs).2)).2
section
variable {G : Gr}
theorem meetO_sub (od : List Int) (r : Int) : ∀ a ∈ od, a ∈ G.meetO od r := by
  intro a ha
  unfold Gr.meetO
  split
  · exact List.mem_append_left _ ha
  · exact ha
theorem meetO_in (od : List Int) {r : Int} (h : G.is r = true) : r ∈ G.meetO od r := by
  unfold Gr.meetO
  split
  · simp
  · rename_i hc
    exact Decidable.byContradiction fun hm => hc ⟨h, hm⟩
theorem meetO_pre (od : List Int) (r : Int) : ∃ t, G.meetO od r = od ++ t := by
  unfold Gr.meetO
  split
  · exact ⟨_, rfl⟩
  · exact ⟨[], by simp⟩
theorem vals_pre (r : Int) (od : List Int) (n : Nat) : ∃ t, (G.vals r od n).2 = od ++ t := by
  induction n with
  | zero => exact ⟨[], by simp [Gr.vals]⟩
  | succ n ih =>
    obtain ⟨t, ht⟩ := ih
    rw [Gr.vals_succ]
    unfold Gr.valStep
    split
    · obtain ⟨t2, h2⟩ := meetO_pre (G := G) (G.vals r od n).2 (G.get r n)
      exact ⟨t ++ t2, by rw [h2, ht, List.append_assoc]⟩
    · exact ⟨t, ht⟩
theorem vals_in (r : Int) (od : List Int) (n : Nat) : ∀ j : Nat, j < n → G.refB r j = true → G.is (G.get r j) = true → G.get r j ∈ (G.vals r od n).2 := by
  induction n with
  | zero => intro j hj; omega
  | succ n ih =>
    intro j hj hb hi
    rw [Gr.vals_succ]
    unfold Gr.valStep
    by_cases hjn : j = n
    · subst hjn
      rw [if_pos hb]
      exact meetO_in _ hi
    · have := ih j (by omega) hb hi
      split
      · exact meetO_sub _ _ _ this
      · exact this
theorem vals_len' (r : Int) (od : List Int) (n : Nat) : (G.vals r od n).1.length = n := by
  induction n with
  | zero => rfl
  | succ n ih =>
    rw [Gr.vals_succ]
    unfold Gr.valStep
    split <;> simp [ih]
theorem outN_pre (n : Nat) (od : List Int) : ∃ t, (G.outN n ([], od)).2 = od ++ t := by
  induction n with
  | zero => exact ⟨[], by simp [Gr.outN]⟩
  | succ n ih =>
    obtain ⟨t, ht⟩ := ih
    show ∃ t, (G.outStep (G.outN n ([], od))).2 = _
    unfold Gr.outStep
    split
    · obtain ⟨t2, h2⟩ := vals_pre (G := G) ((G.outN n ([], od)).2.getD (G.outN n ([], od)).1.length 0) (G.outN n ([], od)).2 (G.num ((G.outN n ([], od)).2.getD (G.outN n ([], od)).1.length 0)).toNat
      exact ⟨t ++ t2, by rw [h2, ht, List.append_assoc]⟩
    · exact ⟨t, ht⟩
/-- Those that are done have their references in the order; each is told by its class and so many values. -/
theorem outN_in (n : Nat) (od : List Int) : ∀ k : Nat, k < (G.outN n ([], od)).1.length → k < (G.outN n ([], od)).2.length ∧
    ((G.outN n ([], od)).1.getD k (0, [])).1 = G.cls ((G.outN n ([], od)).2.getD k 0) ∧ ((G.outN n ([], od)).1.getD k (0, [])).2.length = (G.num ((G.outN n ([], od)).2.getD k 0)).toNat ∧
    ∀ j : Nat, (j : Int) < G.num ((G.outN n ([], od)).2.getD k 0) → G.refB ((G.outN n ([], od)).2.getD k 0) j = true → G.is (G.get ((G.outN n ([], od)).2.getD k 0) j) = true → G.get ((G.outN n ([], od)).2.getD k 0) j ∈ (G.outN n ([], od)).2 := by
  induction n with
  | zero => intro k hk; simp [Gr.outN] at hk
  | succ n ih =>
    show ∀ k : Nat, k < (G.outStep (G.outN n ([], od))).1.length → _
    intro k
    show _ → k < (G.outStep (G.outN n ([], od))).2.length ∧ ((G.outStep (G.outN n ([], od))).1.getD k (0, [])).1 = G.cls ((G.outStep (G.outN n ([], od))).2.getD k 0) ∧ ((G.outStep (G.outN n ([], od))).1.getD k (0, [])).2.length = (G.num ((G.outStep (G.outN n ([], od))).2.getD k 0)).toNat ∧
      ∀ j : Nat, (j : Int) < G.num ((G.outStep (G.outN n ([], od))).2.getD k 0) → G.refB ((G.outStep (G.outN n ([], od))).2.getD k 0) j = true → G.is (G.get ((G.outStep (G.outN n ([], od))).2.getD k 0) j) = true → G.get ((G.outStep (G.outN n ([], od))).2.getD k 0) j ∈ (G.outStep (G.outN n ([], od))).2
    generalize G.outN n ([], od) = s at ih ⊢
    obtain ⟨o, d⟩ := s
    simp only at ih
    by_cases hlt : o.length < d.length
    · have hs : G.outStep (o, d) = (o ++ [(G.cls (d.getD o.length 0), (G.vals (d.getD o.length 0) d (G.num (d.getD o.length 0)).toNat).1)], (G.vals (d.getD o.length 0) d (G.num (d.getD o.length 0)).toNat).2) := by
        unfold Gr.outStep; rw [if_pos hlt]
      rw [hs]
      simp only
      obtain ⟨t, ht⟩ := vals_pre (G := G) (d.getD o.length 0) d (G.num (d.getD o.length 0)).toNat
      have hin := vals_in (G := G) (d.getD o.length 0) d (G.num (d.getD o.length 0)).toNat
      have hvl := vals_len' (G := G) (d.getD o.length 0) d (G.num (d.getD o.length 0)).toNat
      rw [ht] at hin ⊢
      intro hk
      rw [List.length_append, List.length_singleton] at hk
      have hget : (d ++ t).getD k 0 = d.getD k 0 := by
        simp only [List.getD_eq_getElem?_getD]
        rw [List.getElem?_append_left (by omega)]
      rw [hget]
      by_cases hko : k = o.length
      · subst hko
        have h0 : (o ++ [(G.cls (d.getD o.length 0), (G.vals (d.getD o.length 0) d (G.num (d.getD o.length 0)).toNat).1)]).getD o.length (0, []) = (G.cls (d.getD o.length 0), (G.vals (d.getD o.length 0) d (G.num (d.getD o.length 0)).toNat).1) := by
          simp [List.getD_eq_getElem?_getD]
        rw [h0]
        refine ⟨by rw [List.length_append]; omega, rfl, hvl, fun j hj hb hi => hin j (by omega) hb hi⟩
      · have h0 : ∀ x, (o ++ [x]).getD k (0, []) = o.getD k (0, []) := by
          intro x
          simp only [List.getD_eq_getElem?_getD]
          rw [List.getElem?_append_left (by omega)]
        rw [h0]
        obtain ⟨i1, i2, i3, i4⟩ := ih k (by omega)
        exact ⟨by rw [List.length_append]; omega, i2, i3, fun j hj hb hi => List.mem_append_left _ (i4 j hj hb hi)⟩
    · have hs : G.outStep (o, d) = (o, d) := by unfold Gr.outStep; rw [if_neg hlt]
      rw [hs]
      exact ih k
theorem outN_le (n : Nat) (od : List Int) : (G.outN n ([], od)).1.length ≤ (G.outN n ([], od)).2.length := by
  refine Decidable.byContradiction fun h => ?_
  have := (outN_in (G := G) n od ((G.outN n ([], od)).2.length) (by omega)).1
  omega
theorem roots_in (rs : List Int) : ∀ r ∈ rs, G.is r = true → r ∈ (G.roots rs).2 := by
  have pre : ∀ (l : List Int) (s : List Int × List Int), ∃ t, (l.foldl G.rootStep s).2 = s.2 ++ t := by
    intro l
    induction l with
    | nil => intro s; exact ⟨[], by simp⟩
    | cons a l ih =>
      intro s
      obtain ⟨t, ht⟩ := ih (G.rootStep s a)
      obtain ⟨t2, h2⟩ := meetO_pre (G := G) s.2 a
      exact ⟨t2 ++ t, by rw [List.foldl_cons, ht]; show G.meetO s.2 a ++ t = _; rw [h2, List.append_assoc]⟩
  have : ∀ (l : List Int) (s : List Int × List Int), ∀ r ∈ l, G.is r = true → r ∈ (l.foldl G.rootStep s).2 := by
    intro l
    induction l with
    | nil => intro s r hr; simp at hr
    | cons a l ih =>
      intro s r hr hi
      rw [List.foldl_cons]
      rcases List.mem_cons.1 hr with rfl | hr
      · obtain ⟨t, ht⟩ := pre l (G.rootStep s r)
        rw [ht]
        exact List.mem_append_left _ (meetO_in _ hi)
      · exact ih _ r hr hi
  exact this rs _
/-- No more than what is closed. -/
theorem meetO_all {P : Int → Prop} {od : List Int} (h : ∀ a ∈ od, P a) {r : Int} (hr : G.is r = true → P r) : ∀ a ∈ G.meetO od r, P a := by
  intro a ha
  unfold Gr.meetO at ha
  split at ha
  · rename_i hc
    rcases List.mem_append.1 ha with ha | ha
    · exact h a ha
    · simp at ha; subst ha; exact hr hc.1
  · exact h a ha
theorem vals_all {P : Int → Prop} {od : List Int} (h : ∀ a ∈ od, P a) (r : Int) (n : Nat) (hr : ∀ j : Nat, j < n → G.refB r j = true → G.is (G.get r j) = true → P (G.get r j)) : ∀ a ∈ (G.vals r od n).2, P a := by
  induction n with
  | zero => exact h
  | succ n ih =>
    rw [Gr.vals_succ]
    unfold Gr.valStep
    have ih := ih (fun j hj => hr j (by omega))
    split
    · rename_i hb
      exact meetO_all ih (fun hi => hr n (by omega) hb hi)
    · exact ih
theorem outN_all {P : Int → Prop} {od : List Int} (h : ∀ a ∈ od, P a) (hc : ∀ a, P a → ∀ j : Nat, (j : Int) < G.num a → G.refB a j = true → G.is (G.get a j) = true → P (G.get a j)) (n : Nat) : ∀ a ∈ (G.outN n ([], od)).2, P a := by
  induction n with
  | zero => exact h
  | succ n ih =>
    show ∀ a ∈ (G.outStep (G.outN n ([], od))).2, P a
    unfold Gr.outStep
    split
    · rename_i hlt
      have hm : P ((G.outN n ([], od)).2.getD (G.outN n ([], od)).1.length 0) := ih _ (by
        rw [List.getD_eq_getElem?_getD, List.getElem?_eq_getElem hlt]
        exact List.getElem_mem hlt)
      exact vals_all ih _ _ (fun j hj hb hi => hc _ hm j (by omega) hb hi)
    · exact ih
theorem roots_all {P : Int → Prop} (rs : List Int) (h : ∀ r ∈ rs, G.is r = true → P r) : ∀ a ∈ (G.roots rs).2, P a := by
  have : ∀ (l : List Int) (s : List Int × List Int), (∀ a ∈ s.2, P a) → (∀ r ∈ l, G.is r = true → P r) → ∀ a ∈ (l.foldl G.rootStep s).2, P a := by
    intro l
    induction l with
    | nil => intro s h _; exact h
    | cons a l ih =>
      intro s h h2
      rw [List.foldl_cons]
      exact ih _ (meetO_all h (h2 a (by simp))) (fun r hr => h2 r (by simp [hr]))
  exact this rs _ (by simp) h
end

/-- The objects that can be reached. -/
def Hp.reach (S : Hp) (rs : List Int) : List Int := S.gr.od (S.A.length + 1) rs
section
variable {S : Hp} (hS : S.Ok)
include hS
theorem reach_inN (rs : List Int) : InN S.A.length (S.reach rs) := InN.outN (fun _ hr => hS.lt hr) (InN.roots (fun _ hr => hS.lt hr) rs) _
omit hS in
theorem reach_root {rs : List Int} {r : Int} (hr : r ∈ rs) (hi : S.is r = true) : r ∈ S.reach rs := by
  obtain ⟨t, ht⟩ := outN_pre (G := S.gr) (S.A.length + 1) (S.gr.roots rs).2
  unfold Hp.reach Gr.od
  rw [ht]
  exact List.mem_append_left _ (roots_in (G := S.gr) rs r hr hi)
theorem reach_len (rs : List Int) : (S.shape rs).1.length = (S.reach rs).length := by
  rw [gr_shape]
  have h1 := outN_done (G := S.gr) (fun _ hr => hS.lt hr) (InN.roots (G := S.gr) (fun _ hr => hS.lt hr) rs)
  have h2 := outN_le (G := S.gr) (S.A.length + 1) (S.gr.roots rs).2
  unfold Hp.reach Gr.od Gr.shapeN
  dsimp only
  omega
theorem reach_closed {rs : List Int} {a : Int} (ha : a ∈ S.reach rs) (j : Nat) (hj : (j : Int) < S.num a) (hb : S.refB a j = true) (hi : S.is (S.get a j) = true) : S.get a j ∈ S.reach rs := by
  obtain ⟨k, hk, e⟩ := List.mem_iff_getElem.1 ha
  have h1 := reach_len hS rs
  rw [gr_shape] at h1
  unfold Gr.shapeN at h1
  dsimp only at h1
  have h2 := (outN_in (G := S.gr) (S.A.length + 1) (S.gr.roots rs).2 k (by omega)).2.2.2
  have e2 : (S.gr.outN (S.A.length + 1) ([], (S.gr.roots rs).2)).2.getD k 0 = a := by
    show (S.reach rs).getD k 0 = a
    rw [List.getD_eq_getElem?_getD, List.getElem?_eq_getElem hk]
    exact e
  rw [e2] at h2
  exact h2 j hj hb hi
omit hS in
theorem reach_all {P : Int → Prop} {rs : List Int} (h : ∀ r ∈ rs, S.is r = true → P r) (hc : ∀ a, P a → ∀ j : Nat, (j : Int) < S.num a → S.refB a j = true → S.is (S.get a j) = true → P (S.get a j)) : ∀ a ∈ S.reach rs, P a :=
  outN_all (G := S.gr) (roots_all (G := S.gr) rs h) hc _
/-- The words of a shape: those of what can be reached. -/
def wordsO : List (Int × List Int) → Int
  | [] => 0
  | o :: t => 2 + (o.2.length : Int) + wordsO t
omit hS in
theorem wordsO_app : ∀ a b : List (Int × List Int), wordsO (a ++ b) = wordsO a + wordsO b
  | [], b => by simp [wordsO]
  | x :: t, b => by simp only [List.cons_append, wordsO, wordsO_app t b]; omega
theorem words_reach (rs : List Int) : wordsO (S.shape rs).1 = sumW S (S.reach rs) := by
  have h1 := reach_len hS rs
  have h2 : ∀ k, k < (S.shape rs).1.length → ((S.shape rs).1.getD k (0, [])).2.length = (S.num ((S.reach rs).getD k 0)).toNat := by
    intro k hk
    rw [gr_shape] at hk ⊢
    exact (outN_in (G := S.gr) (S.A.length + 1) (S.gr.roots rs).2 k hk).2.2.1
  generalize (S.shape rs).1 = o at h1 h2
  generalize S.reach rs = d at h1 h2
  clear hS
  induction o generalizing d with
  | nil =>
    cases d with
    | nil => rfl
    | cons a t => simp at h1
  | cons x t ih =>
    cases d with
    | nil => simp at h1
    | cons a d =>
      have h3 := h2 0 (by simp)
      have ih := ih d (by simpa using h1) (fun k hk => by
        have := h2 (k + 1) (by simpa using hk)
        simpa using this)
      have hn : 0 ≤ S.num a := unN_nonneg _
      simp only [List.getD_cons_zero] at h3
      simp only [wordsO, sumW, Hp.wd, ih, h3]
      omega
end
end Go.Proofs.YtneeljhjfmcdoaaDoor

/-! The end of a collection, in plain Lean: the heap that is left, its objects, its shape. -/
namespace Go.Proofs.YtneeljhjfmcdoaaDoor

def Hp.Tight (S : Hp) : Prop := ∀ r, S.is r = true → ∀ j : Nat, (j : Int) < S.num r → S.refB r j = true → S.get r j = 0 ∨ S.is (S.get r j) = true
def Hp.Barr (S : Hp) : Prop := ∀ r, S.is r = true → S.inY r = false → ∀ j : Nat, (j : Int) < S.num r → S.refB r j = true → S.inY (S.get r j) = true → bhas S.mr (r - 1).toNat = true
def Hp.MkOk (S : Hp) : Prop := ∀ x : Nat, bhas S.mr x = true → S.is ((x : Int) + 1) = true ∧ S.inY ((x : Int) + 1) = false
/-- The half that is not used is empty. -/
def Hp.Half (S : Hp) : Prop := (S.sp (3 - S.oldK)).top = (S.sp (3 - S.oldK)).fr

/-- Space k behind a collection. -/
def Cx.spE (X : Cx) (M : Mv) (k : Nat) : Spc := if k = X.tk then { X.S.sp k with top := M.top } else if k = 0 ∨ X.all = true then { X.S.sp k with top := (X.S.sp k).fr } else X.S.sp k
def Cx.after (X : Cx) (M : Mv) (bg mr : List Nat) : Hp :=
  { cs := X.S.cs, A := M.A, y := X.spE M 0, h0 := X.spE M 1, h1 := X.spE M 2, now := if X.all then 1 - X.S.now else X.S.now, bg := bg, mr := mr }
theorem after_sp (X : Cx) (M : Mv) (bg mr : List Nat) (k : Nat) (hk : k < 3) : (X.after M bg mr).sp k = X.spE M k := by
  match k, hk with
  | 0, _ => rfl
  | 1, _ => rfl
  | 2, _ => rfl

theorem not_inY {S : Hp} (hS : S.Ok) {a : Int} (h : S.is a = true) (hn : S.inY a = false) : ∃ k, k < 3 ∧ k ≠ 0 ∧ (S.sp k).fr ≤ a - 1 ∧ a + 1 + S.num a ≤ (S.sp k).top := by
  obtain ⟨hb, h1⟩ := is_bhas h
  obtain ⟨k, hk, u1, u2⟩ := hS.used _ hb
  have e : (((a - 1).toNat : Nat) : Int) = a - 1 := by omega
  have hnn : unN (S.A.getD (a - 1).toNat 0) = S.num a := rfl
  rw [e] at u1 u2
  rw [hnn] at u2
  refine ⟨k, hk, ?_, u1, by omega⟩
  rintro rfl
  have e0 : S.sp 0 = S.y := rfl
  rw [e0] at u1 u2
  have n0 : 0 ≤ S.num a := unN_nonneg _
  unfold Hp.inY at hn
  rw [h, decide_eq_true (by omega)] at hn
  cases hn

/-- What holds at the end. -/
structure Cx.End (X : Cx) (Lv : List Int) (sc : Int → Nat → Bool) (M : Mv) (bg : List Nat) : Prop where
  ok : X.Ok
  m : M.Ok X Lv sc
  full : ∀ a b, (a, b) ∈ M.mv → ∀ j : Nat, (j : Int) < X.S.num a → sc b j = true
  bg : ∀ x : Nat, bhas bg x = true ↔ (bhas X.S.bg x = true ∧ X.frm ((x : Int) + 1) = false) ∨ ∃ a, (a, (x : Int) + 1) ∈ M.mv
  tk : X.tk = if X.all = true then 3 - X.S.oldK else X.S.oldK

section
variable {X : Cx} {Lv : List Int} {sc : Int → Nat → Bool} {M : Mv} {bg mr : List Nat}
theorem after_is (h : X.End Lv sc M bg) (r : Int) : (X.after M bg mr).is r = true ↔ ∃ a, M.Img X a r := by
  have e : (X.after M bg mr).is r = (decide (1 ≤ r) && bhas bg (r - 1).toNat) := rfl
  rw [e, Bool.and_eq_true, decide_eq_true_eq, h.bg]
  constructor
  · rintro ⟨h1, h2⟩
    have e1 : (((r - 1).toNat : Nat) : Int) + 1 = r := by omega
    rw [e1] at h2
    rcases h2 with ⟨h2, h3⟩ | ⟨a, h2⟩
    · exact ⟨r, .inr ⟨by unfold Hp.is; rw [decide_eq_true h1, h2]; rfl, h3, rfl⟩⟩
    · exact ⟨a, .inl h2⟩
  · rintro ⟨a, hi⟩
    have hp := h.m.place h.ok hi
    have e1 : (((r - 1).toNat : Nat) : Int) + 1 = r := by omega
    rw [e1]
    refine ⟨hp.2.1, ?_⟩
    rcases hi with h2 | ⟨h2, h3, rfl⟩
    · exact .inr ⟨a, h2⟩
    · exact .inl ⟨(is_bhas h2).1, h3⟩
theorem after_head (h : X.End Lv sc M bg) {a b : Int} (hi : M.Img X a b) : (X.after M bg mr).cls b = X.S.cls a ∧ (X.after M bg mr).num b = X.S.num a := by
  have h1 := (h.m.img a b hi).1
  have e1 : (X.after M bg mr).cls b = unC (M.A.getD (b - 1).toNat 0) := rfl
  have e2 : (X.after M bg mr).num b = unN (M.A.getD (b - 1).toNat 0) := rfl
  rw [e1, e2, h1]
  exact ⟨rfl, rfl⟩
theorem after_refB (h : X.End Lv sc M bg) {a b : Int} (hi : M.Img X a b) (j : Int) : (X.after M bg mr).refB b j = X.S.refB a j := by
  have h1 := after_head (mr := mr) h hi
  have h2 := (after_is (mr := mr) h b).2 ⟨a, hi⟩
  have h3 := (h.m.place h.ok hi).1
  unfold Hp.refB
  rw [h1.1, h1.2, h2, h3]
  rfl
theorem after_get (h : X.End Lv sc M bg) {a b : Int} (hi : M.Img X a b) (j : Nat) (hj : (j : Int) < X.S.num a) :
    (X.after M bg mr).get b j = if (sc b j && X.S.refB a j) = true then fwL M.mv (X.S.get a j) else X.S.get a j := (h.m.img a b hi).2.2 j hj

theorem tk_cases (h : X.End Lv sc M bg) : X.tk = 1 ∨ X.tk = 2 := by
  have := h.tk
  unfold Hp.oldK at this
  split at this <;> split at this <;> omega
theorem sum_pos (S : Hp) : ∀ l : List Int, 0 ≤ sumW S l
  | [] => Int.le_refl _
  | a :: t => by have := wd_pos S a; have := sum_pos S t; simp only [sumW]; omega

theorem spE_bd (h : X.End Lv sc M bg) (k : Nat) : (X.spE M k).fr = (X.S.sp k).fr ∧ (X.spE M k).to = (X.S.sp k).to ∧ (X.S.sp k).fr ≤ (X.spE M k).top ∧ (X.spE M k).top ≤ (X.S.sp k).to := by
  have h1 := h.ok.ok.sp0 k
  have h2 := h.m.tp
  have h3 := h.m.low
  unfold Cx.spE
  by_cases hk : k = X.tk
  · subst hk
    rw [if_pos rfl]
    unfold Cx.T0 at h3
    unfold Cx.tp at h2
    exact ⟨rfl, rfl, by show _ ≤ M.top; omega, h2⟩
  · rw [if_neg hk]
    split
    · exact ⟨rfl, rfl, Int.le_refl _, by show (X.S.sp k).fr ≤ _; omega⟩
    · exact ⟨rfl, rfl, h1.2.1, h1.2.2.1⟩

theorem after_ok (h : X.End Lv sc M bg) : (X.after M bg mr).Ok := by
  have hS := h.ok.ok
  have b0 := spE_bd h 0
  have b1 := spE_bd h 1
  have b2 := spE_bd h 2
  have bimg : ∀ x : Nat, bhas bg x = true → ∃ a, M.Img X a ((x : Int) + 1) := fun x hx => (after_is (mr := mr) h _).1 (by
    unfold Hp.is
    rw [decide_eq_true (by omega), show ((x : Int) + 1 - 1).toNat = x by omega]
    exact hx)
  have head : ∀ {x : Nat} {a : Int}, M.Img X a ((x : Int) + 1) → M.A.getD x 0 = X.S.A.getD (a - 1).toNat 0 := by
    intro x a hi
    have := (h.m.img _ _ hi).1
    rwa [show ((x : Int) + 1 - 1).toNat = x by omega] at this
  refine ⟨by show M.A.length ≤ _; rw [h.m.len]; exact hS.len, hS.few, hS.small, ?_, ?_, ?_, ?_, ?_, ?_, ?_, ?_, ?_, ?_, ?_, ?_, ?_, ?_⟩
  · show (if X.all = true then 1 - X.S.now else X.S.now) = 0 ∨ (if X.all = true then 1 - X.S.now else X.S.now) = 1
    rcases hS.now with e | e <;> rw [e] <;> cases X.all <;> simp
  · show 0 ≤ (X.spE M 0).fr
    rw [b0.1]; exact hS.y0
  · show (X.spE M 0).fr ≤ (X.spE M 0).top
    rw [b0.1]; exact b0.2.2.1
  · show (X.spE M 0).top ≤ (X.spE M 0).to
    rw [b0.2.1]; exact b0.2.2.2
  · show (X.spE M 0).to ≤ (X.spE M 1).fr
    rw [b0.2.1, b1.1]; exact hS.a0
  · show (X.spE M 1).fr ≤ (X.spE M 1).top
    rw [b1.1]; exact b1.2.2.1
  · show (X.spE M 1).top ≤ (X.spE M 1).to
    rw [b1.2.1]; exact b1.2.2.2
  · show (X.spE M 1).to ≤ (X.spE M 2).fr
    rw [b1.2.1, b2.1]; exact hS.b0
  · show (X.spE M 2).fr ≤ (X.spE M 2).top
    rw [b2.1]; exact b2.2.2.1
  · show (X.spE M 2).top ≤ (X.spE M 2).to
    rw [b2.2.1]; exact b2.2.2.2
  · show (X.spE M 2).to ≤ (M.A.length : Int)
    rw [b2.2.1, h.m.len]; exact hS.b3
  · intro x hx
    obtain ⟨a, hi⟩ := bimg x hx
    have hp := h.m.place h.ok hi
    have e := head hi
    obtain ⟨q1, q2, q3, q4⟩ := hS.heads _ (is_bhas hp.1).1
    show headOk (M.A.getD x 0) ∧ unC (M.A.getD x 0) < X.S.cs.length ∧ (0 ≤ unC (M.A.getD x 0) → unN (M.A.getD x 0) = (X.S.cs.getD (unC (M.A.getD x 0)).toNat ByteArray.empty).size) ∧ (x : Int) + 2 + unN (M.A.getD x 0) ≤ M.A.length
    rw [e]
    refine ⟨q1, q2, q3, ?_⟩
    have := hp.2.2
    have e2 : X.S.num a = unN (X.S.A.getD (a - 1).toNat 0) := rfl
    omega
  · intro x hx
    obtain ⟨a, hi⟩ := bimg x hx
    have e := head hi
    show ∃ k, k < 3 ∧ ((X.after M bg mr).sp k).fr ≤ (x : Int) ∧ (x : Int) + 2 + unN (M.A.getD x 0) ≤ ((X.after M bg mr).sp k).top
    rw [e]
    have e2 : X.S.num a = unN (X.S.A.getD (a - 1).toNat 0) := rfl
    rw [← e2]
    rcases hi with hm | ⟨ha, hf, hax⟩
    · have hb := h.m.bd _ _ hm
      have hk3 := h.ok.k3
      refine ⟨X.tk, hk3, ?_⟩
      rw [after_sp _ _ _ _ _ hk3]
      have t0 := hS.sp0 X.tk
      unfold Cx.spE
      rw [if_pos rfl]
      unfold Cx.T0 at hb
      exact ⟨by show (X.S.sp X.tk).fr ≤ _; omega, by show _ ≤ M.top; omega⟩
    · unfold Cx.frm at hf
      rw [ha, Bool.true_and, Bool.or_eq_false_iff] at hf
      obtain ⟨k, hk, hk0, u1, u2⟩ := not_inY hS ha hf.2
      refine ⟨k, hk, ?_⟩
      rw [after_sp _ _ _ _ _ hk]
      unfold Cx.spE
      by_cases hkt : k = X.tk
      · rw [if_pos hkt]
        have := h.m.low
        unfold Cx.T0 at this
        rw [← hkt] at this
        exact ⟨by show (X.S.sp k).fr ≤ _; omega, by show _ ≤ M.top; omega⟩
      · rw [if_neg hkt, if_neg (by rw [hf.1]; simp [hk0])]
        exact ⟨by omega, by omega⟩
  · intro x y hx hy hlt
    obtain ⟨a, hi⟩ := bimg x hx
    obtain ⟨b, hj⟩ := bimg y hy
    show (x : Int) + 2 + unN (M.A.getD x 0) ≤ (y : Int)
    rw [head hi]
    have e2 : X.S.num a = unN (X.S.A.getD (a - 1).toNat 0) := rfl
    rw [← e2]
    have n1 : 0 ≤ X.S.num b := unN_nonneg _
    rcases h.m.apart h.ok hi hj (by omega) with h3 | h3 <;> omega
theorem after_zero (h : X.End Lv sc M bg) : (X.after M bg mr).Zero := by
  intro r hr
  obtain ⟨a, hi⟩ := (after_is h r).1 hr
  exact (h.m.img a r hi).2.1
theorem after_wide (h : X.End Lv sc M bg) : (X.after M bg mr).Wide := h.m.wide
theorem after_young (h : X.End Lv sc M bg) (r : Int) : (X.after M bg mr).inY r = false := by
  have e : (X.after M bg mr).y = X.spE M 0 := rfl
  have h0 := h.ok.k0
  have e2 : X.spE M 0 = { X.S.sp 0 with top := (X.S.sp 0).fr } := by
    unfold Cx.spE
    rw [if_neg (fun e => h0 e.symm), if_pos (.inl rfl)]
  unfold Hp.inY
  rw [e, e2, Bool.and_eq_false_iff]
  right
  rw [decide_eq_false_iff_not]
  intro hc
  have h1 := hc.1
  have h2 := hc.2
  simp only at h1 h2
  omega
theorem after_half (h : X.End Lv sc M bg) (hh : X.all = false → X.S.Half) : (X.after M bg mr).Half := by
  have htk := h.tk
  have hok := h.ok.ok.now
  unfold Hp.Half
  have e : (X.after M bg mr).oldK = X.tk := by
    unfold Hp.oldK
    show (if (if X.all = true then 1 - X.S.now else X.S.now) = 0 then 1 else 2) = X.tk
    rw [htk]
    unfold Hp.oldK
    rcases hok with e | e <;> rw [e] <;> cases X.all <;> simp
  have hc := tk_cases h
  rw [e, after_sp _ _ _ _ _ (by omega)]
  unfold Cx.spE
  rw [if_neg (by omega)]
  cases ha : X.all with
  | true => rw [if_pos (.inr rfl)]
  | false =>
    rw [if_neg (by simp; omega)]
    have h1 := hh ha
    unfold Hp.Half at h1
    rw [ha] at htk
    simp only [Bool.false_eq_true, if_false] at htk
    rw [htk]; exact h1

/-- What a number has become. -/
def Mv.Rel (X : Cx) (M : Mv) (a b : Int) : Prop := (a = 0 ∧ b = 0) ∨ M.Img X a b
theorem rel_fw (h : X.End Lv sc M bg) {v : Int} (h0 : v = 0 ∨ X.S.is v = true) (hm : X.frm v = true → v ∈ M.mv.map Prod.fst) : M.Rel X v (fwL M.mv v) := by
  have nfw : X.frm v = false → fwL M.mv v = v := fun hf => fwL_not (fun hmem => by
    obtain ⟨p, hp, e⟩ := List.mem_map.1 hmem
    have := (h.m.frm p.1 p.2 hp).1
    rw [e, hf] at this; cases this)
  cases hf : X.frm v with
  | true => exact .inr (.inl (fwL_some (hm hf)))
  | false =>
    rw [nfw hf]
    rcases h0 with h0 | h0
    · exact .inl ⟨h0, h0⟩
    · exact .inr (.inr ⟨h0, hf, rfl⟩)
/-- A reference of an object that is left. -/
theorem after_ref (h : X.End Lv sc M bg) (ht : X.S.Tight) (hb : X.all = false → X.S.Barr) (hsc : X.all = false → ∀ r, X.S.is r = true → bhas X.S.mr (r - 1).toNat = true → ∀ j : Nat, (j : Int) < X.S.num r → sc r j = true)
    {a b : Int} (hi : M.Img X a b) (j : Nat) (hj : (j : Int) < X.S.num a) (hr : X.S.refB a j = true) : M.Rel X (X.S.get a j) ((X.after M bg mr).get b j) := by
  have ha := (h.m.place h.ok hi).1
  have hv := ht a ha j hj hr
  rw [after_get h hi j hj, hr, Bool.and_true]
  by_cases hs : sc b j = true
  · rw [if_pos hs]
    exact rel_fw h hv (fun hf => h.m.scm a b hi j hj hs hr hf)
  · rw [if_neg hs]
    rcases hi with hm | ⟨_, hf, rfl⟩
    · exact absurd (h.full a b hm j hj) hs
    · have hf2 := hf
      unfold Cx.frm at hf2
      rw [ha, Bool.true_and, Bool.or_eq_false_iff] at hf2
      have hnv : X.frm (X.S.get a j) = false := by
        cases hfv : X.frm (X.S.get a j) with
        | false => rfl
        | true =>
          exfalso
          unfold Cx.frm at hfv
          rw [Bool.and_eq_true, hf2.1, Bool.false_or] at hfv
          exact hs (hsc hf2.1 a ha (hb hf2.1 a ha hf2.2 j hj hr hfv.2) j hj)
      rcases hv with h0 | h0
      · exact .inl ⟨h0, h0⟩
      · exact .inr (.inr ⟨h0, hnv, rfl⟩)
theorem img_one (h : X.End Lv sc M bg) {a b d : Int} (h1 : M.Img X a b) (h2 : M.Img X a d) : b = d := by
  have mix : ∀ {b d : Int}, (a, b) ∈ M.mv → X.frm a = false → b = d := fun k1 k2 => by
    have := (h.m.frm _ _ k1).1
    rw [k2] at this; cases this
  rcases h1 with k1 | ⟨p1, q1, e1⟩ <;> rcases h2 with k2 | ⟨p2, q2, e2⟩
  · rw [← fwL_mem h.m.nd k1, ← fwL_mem h.m.nd k2]
  · exact mix k1 q2
  · exact (mix k2 q1).symm
  · rw [← e1, ← e2]
theorem after_alike (h : X.End Lv sc M bg) (ht : X.S.Tight) (hb : X.all = false → X.S.Barr) (hsc : X.all = false → ∀ r, X.S.is r = true → bhas X.S.mr (r - 1).toNat = true → ∀ j : Nat, (j : Int) < X.S.num r → sc r j = true) :
    Alike X.S.gr (X.after M bg mr).gr (M.Rel X) := by
  have img : ∀ a b, M.Rel X a b → X.S.gr.is a = true → M.Img X a b := by
    rintro a b (⟨rfl, _⟩ | hi) h2
    · have := is_zero X.S
      have h2 : X.S.is 0 = true := h2
      rw [this] at h2; cases h2
    · exact hi
  refine ⟨?_, ?_, ?_, ?_, ?_, ?_, ?_⟩
  · rintro a b (⟨rfl, rfl⟩ | hi)
    · show X.S.is 0 = (X.after M bg mr).is 0
      rw [is_zero, is_zero]
    · show X.S.is a = (X.after M bg mr).is b
      rw [(h.m.place h.ok hi).1, (after_is h b).2 ⟨a, hi⟩]
  · intro a b hr ha
    exact (after_head h (img a b hr ha)).1.symm
  · intro a b hr ha
    exact (after_head h (img a b hr ha)).2.symm
  · intro a b hr ha j hj
    exact (after_refB h (img a b hr ha) j).symm
  · intro a b hr ha j hj hf
    have hf : X.S.refB a j = false := hf
    show X.S.get a j = (X.after M bg mr).get b j
    rw [after_get h (img a b hr ha) j hj, hf, Bool.and_false, if_neg (by simp)]
  · intro a b hr ha j hj hf
    exact after_ref h ht hb hsc (img a b hr ha) j hj hf
  · intro a b c d hr hr2 ha hc
    have i1 := img a b hr ha
    have i2 := img c d hr2 hc
    constructor
    · rintro rfl; exact img_one h i1 i2
    · rintro rfl; exact h.m.inj h.ok i1 i2
theorem after_tight (h : X.End Lv sc M bg) (ht : X.S.Tight) (hb : X.all = false → X.S.Barr) (hsc : X.all = false → ∀ r, X.S.is r = true → bhas X.S.mr (r - 1).toNat = true → ∀ j : Nat, (j : Int) < X.S.num r → sc r j = true) : (X.after M bg mr).Tight := by
  intro r hr j hj hf
  obtain ⟨a, hi⟩ := (after_is h r).1 hr
  rw [(after_head h hi).2] at hj
  rw [after_refB h hi] at hf
  rcases after_ref (mr := mr) h ht hb hsc hi j hj hf with ⟨_, h0⟩ | h1
  · exact .inl h0
  · exact .inr ((after_is h _).2 ⟨_, h1⟩)
theorem after_barr (h : X.End Lv sc M bg) : (X.after M bg mr).Barr := by
  intro r _ _ j _ _ hy
  rw [after_young h] at hy; cases hy
/-- The shape is what it was. -/
theorem after_shape (h : X.End Lv sc M bg) (ht : X.S.Tight) (hb : X.all = false → X.S.Barr) (hsc : X.all = false → ∀ r, X.S.is r = true → bhas X.S.mr (r - 1).toNat = true → ∀ j : Nat, (j : Int) < X.S.num r → sc r j = true)
    (rs : List Int) (hr : ∀ r ∈ rs, (r = 0 ∨ X.S.is r = true) ∧ (X.frm r = true → r ∈ M.mv.map Prod.fst)) : (X.after M bg mr).shape (rs.map (fwL M.mv)) = X.S.shape rs := by
  rw [gr_shape, gr_shape]
  have e : (X.after M bg mr).A.length = X.S.A.length := h.m.len
  rw [e]
  exact (shape_sim (after_alike h ht hb hsc) _ rs _ (by simp) (fun k hk => by
    have hm : rs.getD k 0 ∈ rs := by rw [List.getD_eq_getElem?_getD, List.getElem?_eq_getElem hk]; exact List.getElem_mem hk
    have e2 : (rs.map (fwL M.mv)).getD k 0 = fwL M.mv (rs.getD k 0) := by
      simp only [List.getD_eq_getElem?_getD, List.getElem?_map, List.getElem?_eq_getElem hk]; rfl
    rw [e2]
    exact rel_fw h (hr _ hm).1 (hr _ hm).2)).symm
end
end Go.Proofs.YtneeljhjfmcdoaaDoor
