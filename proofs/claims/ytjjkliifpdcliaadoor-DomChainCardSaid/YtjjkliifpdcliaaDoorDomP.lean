/- What the program's tree says and what the document's definitions say of it: the same. Plain Lean; no program in sight. -/
import Derived.Test.YtjjkliifpdcliaaDoorDomQR
import Derived.Test.YtjjkliifpdcliaaDoorRFrontW
namespace Go.Proofs.YtjjkliifpdcliaaDoor

/-- How many of the first m. -/
def cntB (p : Nat → Bool) : Nat → Nat
  | 0 => 0
  | m + 1 => cntB p m + if p m then 1 else 0
theorem cntA_B (g : List (List Int)) (a m : Nat) : cntA g a m = cntB (abv g a) m := by
  induction m with
  | zero => rfl
  | succ m ih =>
    show cntA g a m + _ = cntB (abv g a) m + _
    rw [ih]
theorem cntB_ins (p q : Nat → Bool) (v : Nat) (h : ∀ x, p x = (decide (x = v) || q x)) (hv : q v = false) (m : Nat) : cntB p m = cntB q m + if v < m then 1 else 0 := by
  induction m with
  | zero => rfl
  | succ m ih =>
    show cntB p m + _ = cntB q m + _ + _
    rw [ih, h m]
    by_cases e : m = v
    · subst e
      rw [hv]; simp
    · have e1 : decide (m = v) = false := decide_eq_false e
      rw [e1, Bool.false_or]
      have e2 : (v < m + 1) ↔ (v < m) := by omega
      simp only [e2]
      omega
theorem cntB_none (p : Nat → Bool) (m : Nat) (h : ∀ x, x < m → p x = false) : cntB p m = 0 := by
  induction m with
  | zero => rfl
  | succ m ih =>
    show cntB p m + _ = 0
    rw [ih (fun x hx => h x (by omega)), h m (by omega)]; rfl
theorem cntB_le (p : Nat → Bool) (m : Nat) : cntB p m ≤ m := by
  induction m with
  | zero => exact Nat.le_refl _
  | succ m ih =>
    show cntB p m + _ ≤ _
    split <;> omega

section
variable {g : List (List Int)} {f : Nat → Nat}

theorem cleanG_ne (h : 0 < g.length) : cleanG g ≠ [] := fun e => by
  have := cleanG_len g
  rw [e] at this
  simp at this
  omega
theorem reach_avG (h : 0 < g.length) (x : Nat) : Rd (cleanG g) x ↔ Av (Ed (cleanG g)) g.length x := by
  have := reach_av (cleanG_clean g) (cleanG_ne h) x
  rwa [cleanG_len] at this

open Classical in
theorem abv_iff (h : 0 < g.length) (ex : Exact (Rd (cleanG g)) (Ed (cleanG g)) (posn (cleanG g)) f) (b x : Nat) : abv g b x = true ↔ Rd (cleanG g) b ∧ Anc f x b := by
  unfold abv
  simp only [Bool.and_eq_true, decide_eq_true_eq, Bool.not_eq_true', decide_eq_false_iff_not]
  rw [← reach_avG h, ← reach_avG h]
  constructor
  · rintro ⟨⟨_, h2⟩, h3⟩
    exact ⟨h2, (ex.anc b h2 x).2 h3⟩
  · rintro ⟨h2, h3⟩
    exact ⟨⟨(h3.pl ex.tr h2).1, h2⟩, (ex.anc b h2 x).1 h3⟩
theorem abv_eq (h : 0 < g.length) (ex : Exact (Rd (cleanG g)) (Ed (cleanG g)) (posn (cleanG g)) f) (b x : Nat) {q : Prop} [Decidable q] (hq : (Rd (cleanG g) b ∧ Anc f x b) ↔ q) : abv g b x = decide q := by
  have := abv_iff h ex b x
  by_cases hh : q
  · rw [decide_eq_true hh]; exact this.2 (hq.2 hh)
  · rw [decide_eq_false hh]
    cases e : abv g b x with
    | false => rfl
    | true => exact absurd (hq.1 (this.1 e)) hh

theorem cntA_dep (h : 0 < g.length) (ex : Exact (Rd (cleanG g)) (Ed (cleanG g)) (posn (cleanG g)) f) : ∀ n v, posn (cleanG g) v = n → Rd (cleanG g) v → cntA g v g.length = dep (cleanG g) f v + 1 := by
  obtain ⟨par, hg⟩ := dfs_dg (cleanG_clean g) (cleanG_ne h)
  intro n
  induction n using Nat.strongRecOn with
  | _ n ih =>
    intro v hn hv
    have hvn : v < g.length := by have := rd_lt (cleanG_clean g) hv; rwa [cleanG_len] at this
    rw [cntA_B]
    by_cases h0 : v = 0
    · subst h0
      rw [cntB_ins (abv g 0) (fun _ => false) 0 (fun x => ?_) rfl g.length, if_pos hvn, cntB_none _ _ (fun _ _ => rfl), dep_zero]
      rw [Bool.or_false]
      refine abv_eq h ex 0 x ⟨fun hh => ?_, fun e => ⟨hv, e ▸ .refl⟩⟩
      refine Decidable.byContradiction fun e => ?_
      exact (hh.2.of_ne e).1 rfl
    · have hf := ex.tr.up v hv h0
      have hl := ex.tr.lt v hv h0
      have h1 := ih _ (by omega) (f v) rfl hf
      rw [cntA_B] at h1
      have hh : ∀ x, abv g v x = (decide (x = v) || abv g (f v) x) := fun x => by
        have e1 := abv_iff h ex v x
        have e2 := abv_iff h ex (f v) x
        cases e3 : abv g (f v) x with
        | true =>
          rw [Bool.or_true]
          exact e1.2 ⟨hv, .up v h0 (e2.1 e3).2⟩
        | false =>
          rw [Bool.or_false]
          refine abv_eq h ex v x ⟨fun hh => ?_, fun e => ⟨hv, e ▸ .refl⟩⟩
          refine Decidable.byContradiction fun e => ?_
          have := e2.2 ⟨hf, (hh.2.of_ne e).2⟩
          rw [e3] at this
          exact absurd this (by decide)
      have hn2 : abv g (f v) v = false := by
        cases e3 : abv g (f v) v with
        | false => rfl
        | true =>
          have := ((abv_iff h ex (f v) v).1 e3).2.le ex.tr hf
          omega
      rw [cntB_ins (abv g v) (abv g (f v)) v hh hn2 g.length, if_pos hvn, h1, dep_step hg ex.tr hv h0]

/-- How many stand above, without the place itself. -/
theorem strict_dep (h : 0 < g.length) (ex : Exact (Rd (cleanG g)) (Ed (cleanG g)) (posn (cleanG g)) f) (b : Nat) (hb : b < g.length) : (cntB (fun x => abv g b x && decide (x ≠ b)) g.length : Int) = depV (cleanG g) f (b : Int) := by
  by_cases hr : Rd (cleanG g) b
  · unfold depV
    rw [if_pos (show thereP (cleanG g) (b : Int) from ⟨by omega, by rw [Int.toNat_natCast]; exact hr⟩), Int.toNat_natCast]
    have h1 := cntA_dep h ex _ b rfl hr
    rw [cntA_B, cntB_ins (abv g b) (fun x => abv g b x && decide (x ≠ b)) b (fun x => ?_) (by simp) g.length, if_pos hb] at h1
    · omega
    · by_cases e : x = b
      · subst e
        have := (abv_iff h ex x x).2 ⟨hr, .refl⟩
        rw [this]; simp
      · simp [e]
  · unfold depV
    rw [if_neg (show ¬ thereP (cleanG g) (b : Int) from fun hh => hr (by have := hh.2; rwa [Int.toNat_natCast] at this)), cntB_none _ _ (fun x _ => ?_)]
    · rfl
    · cases e : abv g b x with
      | false => rfl
      | true => exact absurd ((abv_iff h ex b x).1 e).1 hr

theorem idR_eq (h : 0 < g.length) (ex : Exact (Rd (cleanG g)) (Ed (cleanG g)) (posn (cleanG g)) f) (b : Nat) : idR g b = if Rd (cleanG g) b ∧ b ≠ 0 then (f b : Int) else -1 := by
  obtain ⟨par, hg⟩ := dfs_dg (cleanG_clean g) (cleanG_ne h)
  have inv : ∀ m, (∀ a, a < m → a ≠ b → abv g b a = true → ((dep (cleanG g) f a + 1 : Nat) : Int) ≤ (bestS g b m).1) ∧ (bestS g b m = (-1, -1) ∨ ∃ a, a < m ∧ a ≠ b ∧ abv g b a = true ∧ bestS g b m = (((dep (cleanG g) f a + 1 : Nat) : Int), (a : Int))) := by
    intro m
    induction m with
    | zero => exact ⟨fun a ha => absurd ha (by omega), .inl rfl⟩
    | succ m ih =>
      obtain ⟨i1, i2⟩ := ih
      have hst : bestS g b (m + 1) = if m ≠ b ∧ abv g b m = true then (if (bestS g b m).1 < (cntA g m g.length : Int) then ((cntA g m g.length : Int), (m : Int)) else bestS g b m) else bestS g b m := rfl
      by_cases hm : m ≠ b ∧ abv g b m = true
      · have hb := (abv_iff h ex b m).1 hm.2
        have hmr := (hb.2.pl ex.tr hb.1).1
        have hcd := cntA_dep h ex _ m rfl hmr
        rw [if_pos hm, hcd] at hst
        by_cases hlt : (bestS g b m).1 < ((dep (cleanG g) f m + 1 : Nat) : Int)
        · rw [if_pos hlt] at hst
          rw [hst]
          refine ⟨fun a ha h1 h2 => ?_, .inr ⟨m, by omega, hm.1, hm.2, rfl⟩⟩
          by_cases e : a = m
          · subst e; exact Int.le_refl _
          · have := i1 a (by omega) h1 h2
            simp only
            omega
        · rw [if_neg hlt] at hst
          rw [hst]
          refine ⟨fun a ha h1 h2 => ?_, ?_⟩
          · by_cases e : a = m
            · subst e; omega
            · exact i1 a (by omega) h1 h2
          · rcases i2 with i2 | ⟨a, h1, h2⟩
            · exact .inl i2
            · exact .inr ⟨a, by omega, h2⟩
      · rw [if_neg hm] at hst
        rw [hst]
        refine ⟨fun a ha h1 h2 => ?_, ?_⟩
        · by_cases e : a = m
          · subst e; exact absurd ⟨h1, h2⟩ hm
          · exact i1 a (by omega) h1 h2
        · rcases i2 with i2 | ⟨a, h1, h2⟩
          · exact .inl i2
          · exact .inr ⟨a, by omega, h2⟩
  obtain ⟨i1, i2⟩ := inv g.length
  unfold idR
  by_cases hb : Rd (cleanG g) b ∧ b ≠ 0
  · rw [if_pos hb]
    have hf := ex.tr.up b hb.1 hb.2
    have hl := ex.tr.lt b hb.1 hb.2
    have hfn : f b < g.length := by have := rd_lt (cleanG_clean g) hf; rwa [cleanG_len] at this
    have h1 := i1 (f b) hfn (fun e => by rw [e] at hl; omega) ((abv_iff h ex b (f b)).2 ⟨hb.1, .up b hb.2 .refl⟩)
    rcases i2 with i2 | ⟨a, _, h3, h4, h5⟩
    · rw [i2] at h1
      simp only at h1
      omega
    · rw [h5] at h1 ⊢
      simp only at h1 ⊢
      have h6 := (((abv_iff h ex b a).1 h4).2.of_ne h3).2
      rcases anc_dep hg ex.tr h6 hf with e | e
      · rw [e]
      · omega
  · rw [if_neg hb]
    rcases i2 with i2 | ⟨a, _, h3, h4, h5⟩
    · rw [i2]
    · have h6 := (abv_iff h ex b a).1 h4
      exact absurd ⟨h6.1, (h6.2.of_ne h3).1⟩ hb

theorem idM_eq (h : 0 < g.length) (ex : Exact (Rd (cleanG g)) (Ed (cleanG g)) (posn (cleanG g)) f) : idM g g.length 0 = idomsV (cleanG g) f := by
  unfold idM idomsV
  rw [cleanG_len]
  refine List.map_congr_left (fun v hv => ?_)
  rw [List.mem_range] at hv
  rw [if_pos hv, idR_eq h ex]

theorem fr_eq (h : 0 < g.length) (ex : Exact (Rd (cleanG g)) (Ed (cleanG g)) (posn (cleanG g)) f) (i : Int) : frL g i = fronV (cleanG g) f i := by
  obtain ⟨par, hg⟩ := dfs_dg (cleanG_clean g) (cleanG_ne h)
  unfold frL fronV
  rw [cleanG_len]
  by_cases hi : 0 ≤ i ∧ i < (g.length : Int)
  · rw [if_pos hi, if_pos hi]
    obtain ⟨q, rfl⟩ := Int.eq_ofNat_of_zero_le hi.1
    rw [Int.toNat_natCast]
    obtain ⟨s1, s2⟩ := sortL_spec (ints (frP g q g.length))
    refine sorted_eq _ _ s1 (ints_lt_pw ?_) (fun y => ?_)
    · unfold fronL
      exact List.pairwise_lt_range.filter _
    · rw [s2, mem_ints, mem_ints]
      have key : ∀ p, p ∈ frP g q g.length ↔ p ∈ fronL (cleanG g) f q := fun p => by
        rw [frP_mem, mem_fronL, cleanG_len]
        constructor
        · rintro ⟨x, hx, hax, hpx, hcond⟩
          obtain ⟨hxr, hqx⟩ := (abv_iff h ex x q).1 hax
          have hpr : Rd (cleanG g) p := hg.step x p hxr hpx
          have hpn : p < g.length := by have := rd_lt (cleanG_clean g) hpr; rwa [cleanG_len] at this
          refine ⟨hpn, hpr, x, hxr, hpx, hqx, fun ⟨h1, h2⟩ => ?_⟩
          simp only [Bool.or_eq_true, Bool.not_eq_true', decide_eq_true_eq] at hcond
          rcases hcond with hc | hc
          · have := (abv_iff h ex p q).2 ⟨hpr, .up p h1 h2⟩
            rw [hc] at this
            exact absurd this (by decide)
          · subst hc
            have h3 := h2.le ex.tr (ex.tr.up p hpr h1)
            have h4 := ex.tr.lt p hpr h1
            omega
        · rintro ⟨hpn, hpr, x, hxr, hpx, hqx, hcond⟩
          have hxn : x < g.length := by have := rd_lt (cleanG_clean g) hxr; rwa [cleanG_len] at this
          refine ⟨x, hxn, (abv_iff h ex x q).2 ⟨hxr, hqx⟩, hpx, ?_⟩
          simp only [Bool.or_eq_true, Bool.not_eq_true', decide_eq_true_eq]
          by_cases e : p = q
          · exact .inr e
          · left
            cases e2 : abv g p q with
            | false => rfl
            | true =>
              have h3 := ((abv_iff h ex p q).1 e2).2.of_ne (fun e3 => e e3.symm)
              exact absurd h3 hcond
      constructor
      · rintro ⟨p, h1, h2⟩; exact ⟨p, (key p).1 h1, h2⟩
      · rintro ⟨p, h1, h2⟩; exact ⟨p, (key p).2 h1, h2⟩
  · rw [if_neg hi, if_neg hi]
end

end Go.Proofs.YtjjkliifpdcliaaDoor
