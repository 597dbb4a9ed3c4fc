/- The end of a collection, in plain Lean: the heap that is left, its objects, its shape. -/
import Derived.Test.YtneeljhjfmcdoaaDoorMvS
namespace Go.Proofs.YtneeljhjfmcdoaaDoor

def Hp.Tight (S : Hp) : Prop := ∀ r, S.is r = true → ∀ j : Nat, (j : Int) < S.num r → S.refB r j = true → S.get r j = 0 ∨ S.is (S.get r j) = true
def Hp.Barr (S : Hp) : Prop := ∀ r, S.is r = true → S.inY r = false → ∀ j : Nat, (j : Int) < S.num r → S.refB r j = true → S.inY (S.get r j) = true → bhas S.mr (r - 1).toNat = true
def Hp.MkOk (S : Hp) : Prop := ∀ x : Nat, bhas S.mr x = true → S.is ((x : Int) + 1) = true ∧ S.inY ((x : Int) + 1) = false
/-- The half that is not used is empty. -/
def Hp.Half (S : Hp) : Prop := (S.sp (3 - S.oldK)).top = (S.sp (3 - S.oldK)).fr

/-- Space k behind a collection. -/
def Cx.spE (X : Cx) (M : Mv) (k : Nat) : Spc := if k = X.tk then { X.S.sp k with top := M.top } else if k = 0 ∨ X.all = true then { X.S.sp k with top := (X.S.sp k).fr } else X.S.sp k
def Cx.after (X : Cx) (M : Mv) (bg mr : List Nat) : Hp :=
  { cs := X.S.cs, A := M.A, y := X.spE M 0, h0 := X.spE M 1, h1 := X.spE M 2, now := if X.all then 1 - X.S.now else X.S.now, bg := bg, mr := mr }
theorem after_sp (X : Cx) (M : Mv) (bg mr : List Nat) (k : Nat) (hk : k < 3) : (X.after M bg mr).sp k = X.spE M k := by
  match k, hk with
  | 0, _ => rfl
  | 1, _ => rfl
  | 2, _ => rfl

theorem not_inY {S : Hp} (hS : S.Ok) {a : Int} (h : S.is a = true) (hn : S.inY a = false) : ∃ k, k < 3 ∧ k ≠ 0 ∧ (S.sp k).fr ≤ a - 1 ∧ a + 1 + S.num a ≤ (S.sp k).top := by
  obtain ⟨hb, h1⟩ := is_bhas h
  obtain ⟨k, hk, u1, u2⟩ := hS.used _ hb
  have e : (((a - 1).toNat : Nat) : Int) = a - 1 := by omega
  have hnn : unN (S.A.getD (a - 1).toNat 0) = S.num a := rfl
  rw [e] at u1 u2
  rw [hnn] at u2
  refine ⟨k, hk, ?_, u1, by omega⟩
  rintro rfl
  have e0 : S.sp 0 = S.y := rfl
  rw [e0] at u1 u2
  have n0 : 0 ≤ S.num a := unN_nonneg _
  unfold Hp.inY at hn
  rw [h, decide_eq_true (by omega)] at hn
  cases hn

/-- What holds at the end. -/
structure Cx.End (X : Cx) (Lv : List Int) (sc : Int → Nat → Bool) (M : Mv) (bg : List Nat) : Prop where
  ok : X.Ok
  m : M.Ok X Lv sc
  full : ∀ a b, (a, b) ∈ M.mv → ∀ j : Nat, (j : Int) < X.S.num a → sc b j = true
  bg : ∀ x : Nat, bhas bg x = true ↔ (bhas X.S.bg x = true ∧ X.frm ((x : Int) + 1) = false) ∨ ∃ a, (a, (x : Int) + 1) ∈ M.mv
  tk : X.tk = if X.all = true then 3 - X.S.oldK else X.S.oldK

section
variable {X : Cx} {Lv : List Int} {sc : Int → Nat → Bool} {M : Mv} {bg mr : List Nat}
theorem after_is (h : X.End Lv sc M bg) (r : Int) : (X.after M bg mr).is r = true ↔ ∃ a, M.Img X a r := by
  have e : (X.after M bg mr).is r = (decide (1 ≤ r) && bhas bg (r - 1).toNat) := rfl
  rw [e, Bool.and_eq_true, decide_eq_true_eq, h.bg]
  constructor
  · rintro ⟨h1, h2⟩
    have e1 : (((r - 1).toNat : Nat) : Int) + 1 = r := by omega
    rw [e1] at h2
    rcases h2 with ⟨h2, h3⟩ | ⟨a, h2⟩
    · exact ⟨r, .inr ⟨by unfold Hp.is; rw [decide_eq_true h1, h2]; rfl, h3, rfl⟩⟩
    · exact ⟨a, .inl h2⟩
  · rintro ⟨a, hi⟩
    have hp := h.m.place h.ok hi
    have e1 : (((r - 1).toNat : Nat) : Int) + 1 = r := by omega
    rw [e1]
    refine ⟨hp.2.1, ?_⟩
    rcases hi with h2 | ⟨h2, h3, rfl⟩
    · exact .inr ⟨a, h2⟩
    · exact .inl ⟨(is_bhas h2).1, h3⟩
theorem after_head (h : X.End Lv sc M bg) {a b : Int} (hi : M.Img X a b) : (X.after M bg mr).cls b = X.S.cls a ∧ (X.after M bg mr).num b = X.S.num a := by
  have h1 := (h.m.img a b hi).1
  have e1 : (X.after M bg mr).cls b = unC (M.A.getD (b - 1).toNat 0) := rfl
  have e2 : (X.after M bg mr).num b = unN (M.A.getD (b - 1).toNat 0) := rfl
  rw [e1, e2, h1]
  exact ⟨rfl, rfl⟩
theorem after_refB (h : X.End Lv sc M bg) {a b : Int} (hi : M.Img X a b) (j : Int) : (X.after M bg mr).refB b j = X.S.refB a j := by
  have h1 := after_head (mr := mr) h hi
  have h2 := (after_is (mr := mr) h b).2 ⟨a, hi⟩
  have h3 := (h.m.place h.ok hi).1
  unfold Hp.refB
  rw [h1.1, h1.2, h2, h3]
  rfl
theorem after_get (h : X.End Lv sc M bg) {a b : Int} (hi : M.Img X a b) (j : Nat) (hj : (j : Int) < X.S.num a) :
    (X.after M bg mr).get b j = if (sc b j && X.S.refB a j) = true then fwL M.mv (X.S.get a j) else X.S.get a j := (h.m.img a b hi).2.2 j hj

theorem tk_cases (h : X.End Lv sc M bg) : X.tk = 1 ∨ X.tk = 2 := by
  have := h.tk
  unfold Hp.oldK at this
  split at this <;> split at this <;> omega
theorem sum_pos (S : Hp) : ∀ l : List Int, 0 ≤ sumW S l
  | [] => Int.le_refl _
  | a :: t => by have := wd_pos S a; have := sum_pos S t; simp only [sumW]; omega

theorem spE_bd (h : X.End Lv sc M bg) (k : Nat) : (X.spE M k).fr = (X.S.sp k).fr ∧ (X.spE M k).to = (X.S.sp k).to ∧ (X.S.sp k).fr ≤ (X.spE M k).top ∧ (X.spE M k).top ≤ (X.S.sp k).to := by
  have h1 := h.ok.ok.sp0 k
  have h2 := h.m.tp
  have h3 := h.m.low
  unfold Cx.spE
  by_cases hk : k = X.tk
  · subst hk
    rw [if_pos rfl]
    unfold Cx.T0 at h3
    unfold Cx.tp at h2
    exact ⟨rfl, rfl, by show _ ≤ M.top; omega, h2⟩
  · rw [if_neg hk]
    split
    · exact ⟨rfl, rfl, Int.le_refl _, by show (X.S.sp k).fr ≤ _; omega⟩
    · exact ⟨rfl, rfl, h1.2.1, h1.2.2.1⟩

theorem after_ok (h : X.End Lv sc M bg) : (X.after M bg mr).Ok := by
  have hS := h.ok.ok
  have b0 := spE_bd h 0
  have b1 := spE_bd h 1
  have b2 := spE_bd h 2
  have bimg : ∀ x : Nat, bhas bg x = true → ∃ a, M.Img X a ((x : Int) + 1) := fun x hx => (after_is (mr := mr) h _).1 (by
    unfold Hp.is
    rw [decide_eq_true (by omega), show ((x : Int) + 1 - 1).toNat = x by omega]
    exact hx)
  have head : ∀ {x : Nat} {a : Int}, M.Img X a ((x : Int) + 1) → M.A.getD x 0 = X.S.A.getD (a - 1).toNat 0 := by
    intro x a hi
    have := (h.m.img _ _ hi).1
    rwa [show ((x : Int) + 1 - 1).toNat = x by omega] at this
  refine ⟨by show M.A.length ≤ _; rw [h.m.len]; exact hS.len, hS.few, hS.small, ?_, ?_, ?_, ?_, ?_, ?_, ?_, ?_, ?_, ?_, ?_, ?_, ?_, ?_⟩
  · show (if X.all = true then 1 - X.S.now else X.S.now) = 0 ∨ (if X.all = true then 1 - X.S.now else X.S.now) = 1
    rcases hS.now with e | e <;> rw [e] <;> cases X.all <;> simp
  · show 0 ≤ (X.spE M 0).fr
    rw [b0.1]; exact hS.y0
  · show (X.spE M 0).fr ≤ (X.spE M 0).top
    rw [b0.1]; exact b0.2.2.1
  · show (X.spE M 0).top ≤ (X.spE M 0).to
    rw [b0.2.1]; exact b0.2.2.2
  · show (X.spE M 0).to ≤ (X.spE M 1).fr
    rw [b0.2.1, b1.1]; exact hS.a0
  · show (X.spE M 1).fr ≤ (X.spE M 1).top
    rw [b1.1]; exact b1.2.2.1
  · show (X.spE M 1).top ≤ (X.spE M 1).to
    rw [b1.2.1]; exact b1.2.2.2
  · show (X.spE M 1).to ≤ (X.spE M 2).fr
    rw [b1.2.1, b2.1]; exact hS.b0
  · show (X.spE M 2).fr ≤ (X.spE M 2).top
    rw [b2.1]; exact b2.2.2.1
  · show (X.spE M 2).top ≤ (X.spE M 2).to
    rw [b2.2.1]; exact b2.2.2.2
  · show (X.spE M 2).to ≤ (M.A.length : Int)
    rw [b2.2.1, h.m.len]; exact hS.b3
  · intro x hx
    obtain ⟨a, hi⟩ := bimg x hx
    have hp := h.m.place h.ok hi
    have e := head hi
    obtain ⟨q1, q2, q3, q4⟩ := hS.heads _ (is_bhas hp.1).1
    show headOk (M.A.getD x 0) ∧ unC (M.A.getD x 0) < X.S.cs.length ∧ (0 ≤ unC (M.A.getD x 0) → unN (M.A.getD x 0) = (X.S.cs.getD (unC (M.A.getD x 0)).toNat ByteArray.empty).size) ∧ (x : Int) + 2 + unN (M.A.getD x 0) ≤ M.A.length
    rw [e]
    refine ⟨q1, q2, q3, ?_⟩
    have := hp.2.2
    have e2 : X.S.num a = unN (X.S.A.getD (a - 1).toNat 0) := rfl
    omega
  · intro x hx
    obtain ⟨a, hi⟩ := bimg x hx
    have e := head hi
    show ∃ k, k < 3 ∧ ((X.after M bg mr).sp k).fr ≤ (x : Int) ∧ (x : Int) + 2 + unN (M.A.getD x 0) ≤ ((X.after M bg mr).sp k).top
    rw [e]
    have e2 : X.S.num a = unN (X.S.A.getD (a - 1).toNat 0) := rfl
    rw [← e2]
    rcases hi with hm | ⟨ha, hf, hax⟩
    · have hb := h.m.bd _ _ hm
      have hk3 := h.ok.k3
      refine ⟨X.tk, hk3, ?_⟩
      rw [after_sp _ _ _ _ _ hk3]
      have t0 := hS.sp0 X.tk
      unfold Cx.spE
      rw [if_pos rfl]
      unfold Cx.T0 at hb
      exact ⟨by show (X.S.sp X.tk).fr ≤ _; omega, by show _ ≤ M.top; omega⟩
    · unfold Cx.frm at hf
      rw [ha, Bool.true_and, Bool.or_eq_false_iff] at hf
      obtain ⟨k, hk, hk0, u1, u2⟩ := not_inY hS ha hf.2
      refine ⟨k, hk, ?_⟩
      rw [after_sp _ _ _ _ _ hk]
      unfold Cx.spE
      by_cases hkt : k = X.tk
      · rw [if_pos hkt]
        have := h.m.low
        unfold Cx.T0 at this
        rw [← hkt] at this
        exact ⟨by show (X.S.sp k).fr ≤ _; omega, by show _ ≤ M.top; omega⟩
      · rw [if_neg hkt, if_neg (by rw [hf.1]; simp [hk0])]
        exact ⟨by omega, by omega⟩
  · intro x y hx hy hlt
    obtain ⟨a, hi⟩ := bimg x hx
    obtain ⟨b, hj⟩ := bimg y hy
    show (x : Int) + 2 + unN (M.A.getD x 0) ≤ (y : Int)
    rw [head hi]
    have e2 : X.S.num a = unN (X.S.A.getD (a - 1).toNat 0) := rfl
    rw [← e2]
    have n1 : 0 ≤ X.S.num b := unN_nonneg _
    rcases h.m.apart h.ok hi hj (by omega) with h3 | h3 <;> omega
theorem after_zero (h : X.End Lv sc M bg) : (X.after M bg mr).Zero := by
  intro r hr
  obtain ⟨a, hi⟩ := (after_is h r).1 hr
  exact (h.m.img a r hi).2.1
theorem after_wide (h : X.End Lv sc M bg) : (X.after M bg mr).Wide := h.m.wide
theorem after_young (h : X.End Lv sc M bg) (r : Int) : (X.after M bg mr).inY r = false := by
  have e : (X.after M bg mr).y = X.spE M 0 := rfl
  have h0 := h.ok.k0
  have e2 : X.spE M 0 = { X.S.sp 0 with top := (X.S.sp 0).fr } := by
    unfold Cx.spE
    rw [if_neg (fun e => h0 e.symm), if_pos (.inl rfl)]
  unfold Hp.inY
  rw [e, e2, Bool.and_eq_false_iff]
  right
  rw [decide_eq_false_iff_not]
  intro hc
  have h1 := hc.1
  have h2 := hc.2
  simp only at h1 h2
  omega
theorem after_half (h : X.End Lv sc M bg) (hh : X.all = false → X.S.Half) : (X.after M bg mr).Half := by
  have htk := h.tk
  have hok := h.ok.ok.now
  unfold Hp.Half
  have e : (X.after M bg mr).oldK = X.tk := by
    unfold Hp.oldK
    show (if (if X.all = true then 1 - X.S.now else X.S.now) = 0 then 1 else 2) = X.tk
    rw [htk]
    unfold Hp.oldK
    rcases hok with e | e <;> rw [e] <;> cases X.all <;> simp
  have hc := tk_cases h
  rw [e, after_sp _ _ _ _ _ (by omega)]
  unfold Cx.spE
  rw [if_neg (by omega)]
  cases ha : X.all with
  | true => rw [if_pos (.inr rfl)]
  | false =>
    rw [if_neg (by simp; omega)]
    have h1 := hh ha
    unfold Hp.Half at h1
    rw [ha] at htk
    simp only [Bool.false_eq_true, if_false] at htk
    rw [htk]; exact h1

/-- What a number has become. -/
def Mv.Rel (X : Cx) (M : Mv) (a b : Int) : Prop := (a = 0 ∧ b = 0) ∨ M.Img X a b
theorem rel_fw (h : X.End Lv sc M bg) {v : Int} (h0 : v = 0 ∨ X.S.is v = true) (hm : X.frm v = true → v ∈ M.mv.map Prod.fst) : M.Rel X v (fwL M.mv v) := by
  have nfw : X.frm v = false → fwL M.mv v = v := fun hf => fwL_not (fun hmem => by
    obtain ⟨p, hp, e⟩ := List.mem_map.1 hmem
    have := (h.m.frm p.1 p.2 hp).1
    rw [e, hf] at this; cases this)
  cases hf : X.frm v with
  | true => exact .inr (.inl (fwL_some (hm hf)))
  | false =>
    rw [nfw hf]
    rcases h0 with h0 | h0
    · exact .inl ⟨h0, h0⟩
    · exact .inr (.inr ⟨h0, hf, rfl⟩)
/-- A reference of an object that is left. -/
theorem after_ref (h : X.End Lv sc M bg) (ht : X.S.Tight) (hb : X.all = false → X.S.Barr) (hsc : X.all = false → ∀ r, X.S.is r = true → bhas X.S.mr (r - 1).toNat = true → ∀ j : Nat, (j : Int) < X.S.num r → sc r j = true)
    {a b : Int} (hi : M.Img X a b) (j : Nat) (hj : (j : Int) < X.S.num a) (hr : X.S.refB a j = true) : M.Rel X (X.S.get a j) ((X.after M bg mr).get b j) := by
  have ha := (h.m.place h.ok hi).1
  have hv := ht a ha j hj hr
  rw [after_get h hi j hj, hr, Bool.and_true]
  by_cases hs : sc b j = true
  · rw [if_pos hs]
    exact rel_fw h hv (fun hf => h.m.scm a b hi j hj hs hr hf)
  · rw [if_neg hs]
    rcases hi with hm | ⟨_, hf, rfl⟩
    · exact absurd (h.full a b hm j hj) hs
    · have hf2 := hf
      unfold Cx.frm at hf2
      rw [ha, Bool.true_and, Bool.or_eq_false_iff] at hf2
      have hnv : X.frm (X.S.get a j) = false := by
        cases hfv : X.frm (X.S.get a j) with
        | false => rfl
        | true =>
          exfalso
          unfold Cx.frm at hfv
          rw [Bool.and_eq_true, hf2.1, Bool.false_or] at hfv
          exact hs (hsc hf2.1 a ha (hb hf2.1 a ha hf2.2 j hj hr hfv.2) j hj)
      rcases hv with h0 | h0
      · exact .inl ⟨h0, h0⟩
      · exact .inr (.inr ⟨h0, hnv, rfl⟩)
theorem img_one (h : X.End Lv sc M bg) {a b d : Int} (h1 : M.Img X a b) (h2 : M.Img X a d) : b = d := by
  have mix : ∀ {b d : Int}, (a, b) ∈ M.mv → X.frm a = false → b = d := fun k1 k2 => by
    have := (h.m.frm _ _ k1).1
    rw [k2] at this; cases this
  rcases h1 with k1 | ⟨p1, q1, e1⟩ <;> rcases h2 with k2 | ⟨p2, q2, e2⟩
  · rw [← fwL_mem h.m.nd k1, ← fwL_mem h.m.nd k2]
  · exact mix k1 q2
  · exact (mix k2 q1).symm
  · rw [← e1, ← e2]
theorem after_alike (h : X.End Lv sc M bg) (ht : X.S.Tight) (hb : X.all = false → X.S.Barr) (hsc : X.all = false → ∀ r, X.S.is r = true → bhas X.S.mr (r - 1).toNat = true → ∀ j : Nat, (j : Int) < X.S.num r → sc r j = true) :
    Alike X.S.gr (X.after M bg mr).gr (M.Rel X) := by
  have img : ∀ a b, M.Rel X a b → X.S.gr.is a = true → M.Img X a b := by
    rintro a b (⟨rfl, _⟩ | hi) h2
    · have := is_zero X.S
      have h2 : X.S.is 0 = true := h2
      rw [this] at h2; cases h2
    · exact hi
  refine ⟨?_, ?_, ?_, ?_, ?_, ?_, ?_⟩
  · rintro a b (⟨rfl, rfl⟩ | hi)
    · show X.S.is 0 = (X.after M bg mr).is 0
      rw [is_zero, is_zero]
    · show X.S.is a = (X.after M bg mr).is b
      rw [(h.m.place h.ok hi).1, (after_is h b).2 ⟨a, hi⟩]
  · intro a b hr ha
    exact (after_head h (img a b hr ha)).1.symm
  · intro a b hr ha
    exact (after_head h (img a b hr ha)).2.symm
  · intro a b hr ha j hj
    exact (after_refB h (img a b hr ha) j).symm
  · intro a b hr ha j hj hf
    have hf : X.S.refB a j = false := hf
    show X.S.get a j = (X.after M bg mr).get b j
    rw [after_get h (img a b hr ha) j hj, hf, Bool.and_false, if_neg (by simp)]
  · intro a b hr ha j hj hf
    exact after_ref h ht hb hsc (img a b hr ha) j hj hf
  · intro a b c d hr hr2 ha hc
    have i1 := img a b hr ha
    have i2 := img c d hr2 hc
    constructor
    · rintro rfl; exact img_one h i1 i2
    · rintro rfl; exact h.m.inj h.ok i1 i2
theorem after_tight (h : X.End Lv sc M bg) (ht : X.S.Tight) (hb : X.all = false → X.S.Barr) (hsc : X.all = false → ∀ r, X.S.is r = true → bhas X.S.mr (r - 1).toNat = true → ∀ j : Nat, (j : Int) < X.S.num r → sc r j = true) : (X.after M bg mr).Tight := by
  intro r hr j hj hf
  obtain ⟨a, hi⟩ := (after_is h r).1 hr
  rw [(after_head h hi).2] at hj
  rw [after_refB h hi] at hf
  rcases after_ref (mr := mr) h ht hb hsc hi j hj hf with ⟨_, h0⟩ | h1
  · exact .inl h0
  · exact .inr ((after_is h _).2 ⟨_, h1⟩)
theorem after_barr (h : X.End Lv sc M bg) : (X.after M bg mr).Barr := by
  intro r _ _ j _ _ hy
  rw [after_young h] at hy; cases hy
/-- The shape is what it was. -/
theorem after_shape (h : X.End Lv sc M bg) (ht : X.S.Tight) (hb : X.all = false → X.S.Barr) (hsc : X.all = false → ∀ r, X.S.is r = true → bhas X.S.mr (r - 1).toNat = true → ∀ j : Nat, (j : Int) < X.S.num r → sc r j = true)
    (rs : List Int) (hr : ∀ r ∈ rs, (r = 0 ∨ X.S.is r = true) ∧ (X.frm r = true → r ∈ M.mv.map Prod.fst)) : (X.after M bg mr).shape (rs.map (fwL M.mv)) = X.S.shape rs := by
  rw [gr_shape, gr_shape]
  have e : (X.after M bg mr).A.length = X.S.A.length := h.m.len
  rw [e]
  exact (shape_sim (after_alike h ht hb hsc) _ rs _ (by simp) (fun k hk => by
    have hm : rs.getD k 0 ∈ rs := by rw [List.getD_eq_getElem?_getD, List.getElem?_eq_getElem hk]; exact List.getElem_mem hk
    have e2 : (rs.map (fwL M.mv)).getD k 0 = fwL M.mv (rs.getD k 0) := by
      simp only [List.getD_eq_getElem?_getD, List.getElem?_map, List.getElem?_eq_getElem hk]; rfl
    rw [e2]
    exact rel_fw h (hr _ hm).1 (hr _ hm).2)).symm
end
end Go.Proofs.YtneeljhjfmcdoaaDoor
