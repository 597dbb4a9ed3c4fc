/- Who stands above whom, worked out in passes over the places in their order: plain Lean. No program in sight. The walk in depth gives the frame for 'who stands above whom': plain Lean. No program in sight. The passes of 'who stands above whom' over rows of integers (-1: none): plain Lean. No program in sight. Where each place stands in a row, as rows of integers: plain. The tree's depths and kids, place by place in the order: plain Lean. No program in sight. -/
import Derived.WalkKit
import Derived.Test.YtjjkliifpdcliaaDoorDfs2
import Derived.Test.YtjjkliifpdcliaaDoorCleanL
import Derived.Test.YtjjkliifpdcliaaDoorFlowT
/-! Who stands above whom, worked out in passes over the places in their order: plain Lean. No program in sight. -/
namespace Go.Proofs.YtjjkliifpdcliaaDoor

/-- The frame: which places can be reached, the edges, where each stands in the order, by whom it was come upon. -/
structure DG (R : Nat → Prop) (E : Nat → Nat → Prop) (pos par : Nat → Nat) : Prop where
  r0 : R 0
  step : ∀ p x, R p → E p x → R x
  p0 : pos 0 = 0
  inj : ∀ a b, R a → R b → pos a = pos b → a = b
  rpar : ∀ x, R x → x ≠ 0 → R (par x)
  epar : ∀ x, R x → x ≠ 0 → E (par x) x
  lpar : ∀ x, R x → x ≠ 0 → pos (par x) < pos x

/-- Reached from 0 without coming to d. -/
inductive Av (E : Nat → Nat → Prop) (d : Nat) : Nat → Prop
  | zero : 0 ≠ d → Av E d 0
  | step (p x : Nat) : Av E d p → E p x → x ≠ d → Av E d x
theorem Av.ne {E : Nat → Nat → Prop} {d x : Nat} (h : Av E d x) : x ≠ d := by
  cases h with
  | zero h => exact h
  | step p x _ _ h => exact h

/-- a stands on the way up from v. -/
inductive Anc (f : Nat → Nat) (a : Nat) : Nat → Prop
  | refl : Anc f a a
  | up (v : Nat) : v ≠ 0 → Anc f a (f v) → Anc f a v

section
variable {R : Nat → Prop} {E : Nat → Nat → Prop} {pos par : Nat → Nat}

theorem Av.reach (h : DG R E pos par) {d x : Nat} (k : Av E d x) : R x := by
  induction k with
  | zero _ => exact h.r0
  | step p x _ e _ ih => exact h.step p x ih e
theorem av_of_pos (h : DG R E pos par) (d : Nat) : ∀ n x, pos x = n → R x → pos x < pos d → Av E d x := by
  intro n
  induction n using Nat.strongRecOn with
  | _ n ih =>
    intro x hn hx hd
    have hne : x ≠ d := by rintro rfl; omega
    by_cases h0 : x = 0
    · subst h0; exact .zero hne
    · have hl := h.lpar x hx h0
      exact .step (par x) x (ih (pos (par x)) (by omega) (par x) rfl (h.rpar x hx h0) (by omega)) (h.epar x hx h0) hne
theorem dm_pos (h : DG R E pos par) {d x : Nat} (hx : R x) (hd : ¬ Av E d x) : pos d ≤ pos x := by
  rcases Nat.lt_or_ge (pos x) (pos d) with hl | hl
  · exact absurd (av_of_pos h d _ x rfl hx hl) hd
  · exact hl
theorem dm_self {E : Nat → Nat → Prop} (d : Nat) : ¬ Av E d d := fun h => h.ne rfl
theorem dm_pred {E : Nat → Nat → Prop} {d p x : Nat} (hd : ¬ Av E d x) (hne : x ≠ d) (e : E p x) : ¬ Av E d p := fun h => hd (.step p x h e hne)
theorem pos_pos (h : DG R E pos par) {x : Nat} (hx : R x) (h0 : x ≠ 0) : 0 < pos x := by
  rcases Nat.eq_zero_or_pos (pos x) with hp | hp
  · exact absurd (h.inj x 0 hx h.r0 (by rw [hp, h.p0])) h0
  · exact hp

/-- A tree: which places have a place in it, and who is right above. -/
structure Tr (R : Nat → Prop) (pos : Nat → Nat) (f : Nat → Nat) (P : Nat → Prop) : Prop where
  p0 : P 0
  sub : ∀ v, P v → R v
  up : ∀ v, P v → v ≠ 0 → P (f v)
  lt : ∀ v, P v → v ≠ 0 → pos (f v) < pos v

variable {f g : Nat → Nat} {P Q : Nat → Prop}

theorem Anc.trans {a b v : Nat} (h : Anc f a b) (k : Anc f b v) : Anc f a v := by
  induction k with
  | refl => exact h
  | up v h0 _ ih => exact .up v h0 ih
theorem Anc.pl (t : Tr R pos f P) {a v : Nat} (k : Anc f a v) (hv : P v) : P a ∧ (a = v ∨ pos a < pos v) := by
  induction k with
  | refl => exact ⟨hv, .inl rfl⟩
  | up v h0 _ ih =>
    obtain ⟨h1, h2⟩ := ih (t.up v hv h0)
    have := t.lt v hv h0
    refine ⟨h1, .inr ?_⟩
    rcases h2 with h2 | h2
    · rw [h2]; exact this
    · omega
theorem Anc.le (t : Tr R pos f P) {a v : Nat} (k : Anc f a v) (hv : P v) : pos a ≤ pos v := by
  rcases (k.pl t hv).2 with h | h
  · rw [h]; exact Nat.le_refl _
  · omega
theorem Anc.of_ne {a v : Nat} (k : Anc f a v) (hne : a ≠ v) : v ≠ 0 ∧ Anc f a (f v) := by
  cases k with
  | refl => exact absurd rfl hne
  | up v h0 k => exact ⟨h0, k⟩
theorem anc_zero (t : Tr R pos f P) : ∀ n v, pos v = n → P v → Anc f 0 v := by
  intro n
  induction n using Nat.strongRecOn with
  | _ n ih =>
    intro v hn hv
    by_cases h0 : v = 0
    · subst h0; exact .refl
    · have := t.lt v hv h0
      exact .up v h0 (ih _ (by omega) (f v) rfl (t.up v hv h0))
/-- Of two above one the higher is above the other. -/
theorem anc_total (t : Tr R pos f P) {a b v : Nat} (ha : Anc f a v) (hb : Anc f b v) (hv : P v) (hl : pos a ≤ pos b) : Anc f a b := by
  induction hb with
  | refl => exact ha
  | up v h0 k ih =>
    have h1 := (k.le t (t.up v hv h0))
    have h2 := t.lt v hv h0
    have hne : a ≠ v := by rintro rfl; omega
    exact ih (ha.of_ne hne).2 (t.up v hv h0)
theorem anc_congr (t : Tr R pos f P) (c : Nat) (he : ∀ u, P u → pos u < c → g u = f u) {n v : Nat} (hv : P v) (hc : pos v < c) : Anc g n v ↔ Anc f n v := by
  constructor
  · intro k
    induction k with
    | refl => exact .refl
    | up v h0 k ih =>
      rw [he v hv hc] at ih
      have := t.lt v hv h0
      exact .up v h0 (ih (t.up v hv h0) (by omega))
  · intro k
    induction k with
    | refl => exact .refl
    | up v h0 k ih =>
      have := t.lt v hv h0
      exact .up v h0 (by rw [he v hv hc]; exact ih (t.up v hv h0) (by omega))

/-- Whoever must be passed is above, if each place's own are those of the one right above. -/
theorem dm_anc (t : Tr R pos f P) (hd : ∀ v, P v → v ≠ 0 → ∀ d, ¬ Av E d v → d ≠ v → ¬ Av E d (f v)) : ∀ n v d, pos v = n → P v → ¬ Av E d v → Anc f d v := by
  intro n
  induction n using Nat.strongRecOn with
  | _ n ih =>
    intro v d hn hv hdv
    by_cases hne : d = v
    · subst hne; exact .refl
    · by_cases h0 : v = 0
      · subst h0
        exact absurd (.zero (fun e => hne e.symm)) hdv
      · have := t.lt v hv h0
        exact .up v h0 (ih _ (by omega) (f v) d rfl (t.up v hv h0) (hd v hv h0 d hdv hne))
theorem dm_along (t : Tr R pos f P) (hd : ∀ v, P v → v ≠ 0 → ∀ d, ¬ Av E d v → d ≠ v → ¬ Av E d (f v)) {m u d : Nat} (k : Anc f m u) (hu : P u) (hdm : Anc f d m) (hdu : ¬ Av E d u) : ¬ Av E d m := by
  induction k with
  | refl => exact hdu
  | up v h0 k ih =>
    have h1 := t.lt v hu h0
    have h2 := k.le t (t.up v hu h0)
    have h3 := hdm.le t (k.pl t (t.up v hu h0)).1
    have hne : d ≠ v := by rintro rfl; omega
    exact ih (t.up v hu h0) (hd v hu h0 d hdu hne)

/-- What holds between the passes. -/
structure DInvP (R : Nat → Prop) (E : Nat → Nat → Prop) (pos : Nat → Nat) (f : Nat → Nat) (P : Nat → Prop) : Prop where
  tr : Tr R pos f P
  all : (∀ v, P v → v = 0) ∨ (∀ v, R v → P v)
  dom : ∀ v, P v → v ≠ 0 → ∀ d, ¬ Av E d v → d ≠ v → ¬ Av E d (f v)
  fwd : ∀ v p, P v → v ≠ 0 → R p → E p v → pos p < pos v → Anc f (f v) p
  q : (∀ v, R v → P v) → ∀ x, R x → x ≠ 0 → ∀ n, pos n < pos x → (∀ p, R p → E p x → Anc f n p) → Anc f n (f x)

/-- The first above p that stands ahead of c. -/
def FirstB (f : Nat → Nat) (pos : Nat → Nat) (c p q : Nat) : Prop := Anc f q p ∧ pos q < c ∧ ∀ r, Anc f r p → pos r < c → Anc f r q

theorem first_ex (hg : DG R E pos par) (t : Tr R pos f P) (c : Nat) (hc : 0 < c) : ∀ n p, pos p = n → P p → ∃ q, FirstB f pos c p q := by
  intro n
  induction n using Nat.strongRecOn with
  | _ n ih =>
    intro p hn hp
    by_cases hl : pos p < c
    · exact ⟨p, .refl, hl, fun r hr _ => hr⟩
    · have h0 : p ≠ 0 := by rintro rfl; rw [hg.p0] at hl; omega
      have := t.lt p hp h0
      obtain ⟨q, h1, h2, h3⟩ := ih _ (by omega) (f p) rfl (t.up p hp h0)
      exact ⟨q, .up p h0 h1, h2, fun r hr hrc => h3 r (hr.of_ne (by rintro rfl; omega)).2 hrc⟩

/-- In the midst of a pass: the first k places are done anew; f, P what was at its beginning; ch: whether anything has turned. -/
structure Mid (R : Nat → Prop) (E : Nat → Nat → Prop) (pos : Nat → Nat) (f : Nat → Nat) (P : Nat → Prop) (g : Nat → Nat) (Q : Nat → Prop) (k : Nat) (ch : Bool) : Prop where
  tr : Tr R pos g Q
  has : ∀ v, R v → (Q v ↔ P v ∨ pos v < k)
  old : ∀ v, P v → k ≤ pos v → g v = f v
  dom : ∀ v, Q v → v ≠ 0 → ∀ d, ¬ Av E d v → d ≠ v → ¬ Av E d (g v)
  fwd : ∀ v p, R v → v ≠ 0 → pos v < k → R p → E p v → pos p < pos v → Anc g (g v) p
  mono : (∀ v, R v → P v) → ∀ v, R v → pos v < k → ∀ n, Anc g n v → Anc f n v
  q : ∀ v, R v → v ≠ 0 → pos v < k → ∀ n, pos n < pos v → (∀ p, R p → E p v → pos p < pos v → Anc g n p) →
    ((∀ v, R v → P v) → ∀ p, R p → E p v → pos v ≤ pos p → ∃ q, FirstB f pos (pos v) p q ∧ Anc g n q) → Anc g n (g v)
  un : ch = false → (∀ v, P v → v ≠ 0 → g v = f v) ∧ ∀ v, R v → v ≠ 0 → pos v < k → P v ∧ ∀ p, P p → E p v → Anc f (f v) p

theorem Mid.start (hg : DG R E pos par) (h : DInvP R E pos f P) : Mid R E pos f P f P 1 false := by
  have hl : ∀ v, R v → v ≠ 0 → ¬ pos v < 1 := fun v hv h0 hk => by have := pos_pos hg hv h0; omega
  refine ⟨h.tr, fun v hv => ⟨.inl, fun hq => ?_⟩, fun _ _ _ => rfl, h.dom, fun v p hv h0 hk => absurd hk (hl v hv h0), fun _ v _ _ n hn => hn, fun v hv h0 hk => absurd hk (hl v hv h0), fun _ => ⟨fun _ _ _ => rfl, fun v hv h0 hk => absurd hk (hl v hv h0)⟩⟩
  rcases hq with hq | hq
  · exact hq
  · by_cases h0 : v = 0
    · subst h0; exact h.tr.p0
    · exact absurd hq (hl v hv h0)

variable {k : Nat} {ch : Bool}

/-- What stands above a place that is not done anew, ahead of k. -/
theorem Mid.hyb (m : Mid R E pos f P g Q k ch) (t : Tr R pos f P) (hA : ∀ v, R v → P v) {n p : Nat} (ha : Anc g n p) (hp : R p) (hn : pos n < k) (hk : k ≤ pos p) : ∃ q, FirstB f pos k p q ∧ Anc g n q := by
  induction ha with
  | refl => omega
  | up v h0 ka ih =>
    have e := m.old v (hA v hp) hk
    rw [e] at ih ka
    have hlt := t.lt v (hA v hp) h0
    by_cases hl : pos (f v) < k
    · refine ⟨f v, ⟨.up v h0 .refl, hl, fun r hr hrc => (hr.of_ne (by rintro rfl; omega)).2⟩, ka⟩
    · obtain ⟨q, ⟨h1, h2, h3⟩, h4⟩ := ih (t.sub _ (t.up v (hA v hp) h0)) (by omega)
      exact ⟨q, ⟨.up v h0 h1, h2, fun r hr hrc => h3 r (hr.of_ne (by rintro rfl; omega)).2 hrc⟩, h4⟩
theorem Mid.hyb' (m : Mid R E pos f P g Q k ch) {n p q : Nat} (t : Tr R pos f P) (ha : Anc f q p) (hp : P p) (hk : k ≤ pos p) (hfirst : ∀ r, Anc f r p → pos r < k → Anc f r q) (hn : Anc g n q) : Anc g n p := by
  induction ha with
  | refl => exact hn
  | up v h0 ka ih =>
    have hlt := t.lt v hp h0
    refine .up v h0 ?_
    rw [m.old v hp hk]
    by_cases hl : pos (f v) < k
    · have h1 := hfirst (f v) (.up v h0 .refl) hl
      have h2 := h1.le t (ka.pl t (t.up v hp h0)).1
      rcases (ka.pl t (t.up v hp h0)).2 with e | e
      · rw [← e]; exact hn
      · omega
    · exact ih (t.up v hp h0) (by omega) (fun r hr hrc => hfirst r (.up v h0 hr) hrc)

/-- The next place: of those that go on there, whoever stands above all that have one: m. -/
theorem Mid.next (hg : DG R E pos par) (h : DInvP R E pos f P) (md : Mid R E pos f P g Q k ch) {x m : Nat} (hx : R x) (h0 : x ≠ 0) (hk : pos x = k)
    (hm : Q m) (hmeet : ∀ n, Anc g n m ↔ ∀ p, Q p → E p x → Anc g n p) (g' : Nat → Nat) (hg' : ∀ v, g' v = if v = x then m else g v) (Q' : Nat → Prop) (hQ' : ∀ v, Q' v ↔ Q v ∨ v = x) (ch' : Bool) (hch : ch' = false → ch = false ∧ P x ∧ m = g x) :
    Mid R E pos f P g' Q' (k + 1) ch' ∧ ((∀ v, R v → P v) → Anc f m (f x)) ∧ pos m < k := by
  have hparQ : Q (par x) := (md.has _ (hg.rpar x hx h0)).2 (.inr (by have := hg.lpar x hx h0; omega))
  have hmp := (hmeet m).1 .refl (par x) hparQ (hg.epar x hx h0)
  have hmk : pos m < k := by have := hmp.le md.tr hparQ; have := hg.lpar x hx h0; omega
  have hmR : R m := md.tr.sub _ hm
  have hxm : m ≠ x := by rintro rfl; omega
  have hgx : g' x = m := by rw [hg', if_pos rfl]
  have hgo : ∀ v, v ≠ x → g' v = g v := fun v hv => by rw [hg', if_neg hv]
  -- below k nothing has turned
  have hlow : ∀ {n v : Nat}, Q v → pos v < k → (Anc g' n v ↔ Anc g n v) := fun {n v} hv hvk => anc_congr md.tr k (fun u hu huk => hgo u (by rintro rfl; omega)) hv hvk
  have tr' : Tr R pos g' Q' := by
    refine ⟨(hQ' 0).2 (.inl md.tr.p0), fun v hv => ?_, fun v hv hv0 => ?_, fun v hv hv0 => ?_⟩
    · rcases (hQ' v).1 hv with hv | rfl
      · exact md.tr.sub v hv
      · exact hx
    · by_cases e : v = x
      · subst e; rw [hgx]; exact (hQ' _).2 (.inl hm)
      · rw [hgo v e]
        rcases (hQ' v).1 hv with hv | hv
        · exact (hQ' _).2 (.inl (md.tr.up v hv hv0))
        · exact absurd hv e
    · by_cases e : v = x
      · subst e; rw [hgx]; omega
      · rw [hgo v e]
        rcases (hQ' v).1 hv with hv | hv
        · exact md.tr.lt v hv hv0
        · exact absurd hv e
  have hmono : (∀ v, R v → P v) → ∀ n, Anc g n m → Anc f n (f x) := by
    intro hA n hn
    have hnk : pos n < k := by have := hn.le md.tr hm; omega
    refine h.q hA x hx h0 n (by omega) (fun p hp e => ?_)
    have hpQ := (md.has p hp).2 (.inl (hA p hp))
    have h1 := (hmeet n).1 hn p hpQ e
    rcases Nat.lt_or_ge (pos p) k with hl | hl
    · exact md.mono hA p hp hl n h1
    · obtain ⟨q, ⟨hq1, hq2, _⟩, hq4⟩ := md.hyb h.tr hA h1 hp hnk hl
      exact (md.mono hA q (h.tr.sub _ (hq1.pl h.tr (hA p hp)).1) hq2 n hq4).trans hq1
  refine ⟨⟨tr', fun v hv => ?_, fun v hv hvk => ?_, fun v hv hv0 d hd hne => ?_, fun v p hv hv0 hvk hp e hlt => ?_, fun hA v hv hvk n hn => ?_, fun v hv hv0 hvk n hn h1 h2 => ?_, fun hc => ?_⟩, fun hA => hmono hA m .refl, hmk⟩
  · rw [hQ', md.has v hv]
    constructor
    · rintro ((h1 | h1) | rfl)
      · exact .inl h1
      · exact .inr (by omega)
      · exact .inr (by omega)
    · rintro (h1 | h1)
      · exact .inl (.inl h1)
      · by_cases e : v = x
        · exact .inr e
        · refine .inl (.inr ?_)
          have : pos v ≠ pos x := fun e2 => e (hg.inj v x hv hx e2)
          omega
  · rw [hgo v (by rintro rfl; omega)]
    exact md.old v hv (by omega)
  · by_cases e : v = x
    · subst e
      rw [hgx]
      have hpr : ∀ p, Q p → E p v → Anc g d p := fun p hp e => dm_anc md.tr md.dom _ p d rfl hp (dm_pred hd (fun e => hne e.symm) e)
      exact dm_along md.tr md.dom hmp hparQ ((hmeet d).2 hpr) (dm_pred hd (fun e => hne e.symm) (hg.epar v hx h0))
    · rw [hgo v e]
      rcases (hQ' v).1 hv with hv | hv
      · exact md.dom v hv hv0 d hd hne
      · exact absurd hv e
  · have hpQ : Q p := (md.has p hp).2 (.inr (by omega))
    by_cases e2 : v = x
    · subst e2
      rw [hgx]
      exact (hlow hpQ (by omega)).2 ((hmeet m).1 .refl p hpQ e)
    · rw [hgo v e2]
      have : pos v ≠ pos x := fun e3 => e2 (hg.inj v x hv hx e3)
      exact (hlow hpQ (by omega)).2 (md.fwd v p hv hv0 (by omega) hp e hlt)
  · by_cases e : v = x
    · subst e
      by_cases en : n = v
      · subst en; exact .refl
      · have h1 := (hn.of_ne en).2
        rw [hgx] at h1
        exact .up v h0 (hmono hA n ((hlow hm hmk).1 h1))
    · have : pos v ≠ pos x := fun e3 => e (hg.inj v x hv hx e3)
      exact md.mono hA v hv (by omega) n ((hlow ((md.has v hv).2 (.inr (by omega))) (by omega)).1 hn)
  · by_cases e : v = x
    · subst e
      rw [hgx, hlow hm hmk, hmeet]
      intro p hp e
      have hpR := md.tr.sub p hp
      rcases Nat.lt_or_ge (pos p) (pos v) with hl | hl
      · exact (hlow hp (by omega)).1 (h1 p hpR e hl)
      · rcases h.all with hz | hA
        · rcases (md.has p hpR).1 hp with h3 | h3
          · have := hz p h3
            subst this
            have := pos_pos hg hx h0
            rw [hg.p0] at hl
            omega
          · omega
        · obtain ⟨q, ⟨hq1, hq2, hq3⟩, hq4⟩ := h2 hA p hpR e hl
          have hqQ : Q q := (md.has q (h.tr.sub _ (hq1.pl h.tr (hA p hpR)).1)).2 (.inr (by omega))
          rw [hk] at hq2 hq3 hl
          exact md.hyb' h.tr hq1 (hA p hpR) hl hq3 ((hlow hqQ (by omega)).1 hq4)
    · have : pos v ≠ pos x := fun e3 => e (hg.inj v x hv hx e3)
      rw [hgo v e]
      have hvQ : Q v := (md.has v hv).2 (.inr (by omega))
      have hup := md.tr.up v hvQ hv0
      have hul := md.tr.lt v hvQ hv0
      rw [hlow hup (by omega)]
      refine md.q v hv hv0 (by omega) n hn (fun p hp e hl => (hlow ((md.has p hp).2 (.inr (by omega))) (by omega)).1 (h1 p hp e hl)) (fun hA p hp e hl => ?_)
      obtain ⟨q, hq, hq4⟩ := h2 hA p hp e hl
      have hqR : R q := h.tr.sub _ (hq.1.pl h.tr (hA p hp)).1
      have hqk := hq.2.1
      exact ⟨q, hq, (hlow ((md.has q hqR).2 (.inr (by omega))) (by omega)).1 hq4⟩
  · obtain ⟨c1, c2, c3⟩ := hch hc
    obtain ⟨u1, u2⟩ := md.un c1
    have hgf : ∀ v, P v → v ≠ 0 → g' v = f v := fun v hv hv0 => by
      by_cases e : v = x
      · subst e; rw [hgx, c3]; exact u1 v hv hv0
      · rw [hgo v e]; exact u1 v hv hv0
    refine ⟨hgf, fun v hv hv0 hvk => ?_⟩
    by_cases e : v = x
    · subst e
      refine ⟨c2, fun p hp ep => ?_⟩
      have hpQ : Q p := (md.has p (h.tr.sub p hp)).2 (.inl hp)
      have h3 := (hmeet m).1 .refl p hpQ ep
      rw [c3, u1 v c2 hv0] at h3
      have key : ∀ {a u : Nat}, P u → Anc g a u → Anc f a u := by
        intro a u hu ha
        induction ha with
        | refl => exact .refl
        | up w hw0 _ ih =>
          rw [u1 w hu hw0] at ih
          exact .up w hw0 (ih (h.tr.up w hu hw0))
      exact key hp h3
    · have : pos v ≠ pos x := fun e3 => e (hg.inj v x hv hx e3)
      exact u2 v hv hv0 (by omega)

theorem par_path (hg : DG R E pos par) (hf : ∀ v p, R v → v ≠ 0 → R p → E p v → pos p < pos v → Anc f (f v) p) : ∀ n v a, pos v = n → R v → Anc f a v → Anc par a v := by
  intro n
  induction n using Nat.strongRecOn with
  | _ n ih =>
    intro v a hn hv ha
    by_cases e : a = v
    · subst e; exact .refl
    · obtain ⟨h0, h1⟩ := ha.of_ne e
      have h2 := hg.lpar v hv h0
      exact .up v h0 (ih _ (by omega) (par v) a rfl (hg.rpar v hv h0) (h1.trans (hf v (par v) hv h0 (hg.rpar v hv h0) (hg.epar v hv h0) h2)))
theorem down_path (hg : DG R E pos par) (hf : ∀ v p, R v → v ≠ 0 → R p → E p v → pos p < pos v → Anc g (g v) p) {q p n : Nat} (k : Anc par q p) (hp : R p) (hn : Anc g n p) (hl : pos n ≤ pos q) : Anc g n q := by
  induction k with
  | refl => exact hn
  | up v h0 kk ih =>
    have h1 := hg.lpar v hp h0
    have h2 : pos q ≤ pos (par v) := by
      clear ih hn
      have key : ∀ {u : Nat}, Anc par q u → R u → pos q ≤ pos u := by
        intro u ku
        induction ku with
        | refl => intro _; exact Nat.le_refl _
        | up w hw0 _ ih2 => intro hw; have := hg.lpar w hw hw0; have := ih2 (hg.rpar w hw hw0); omega
      exact key kk (hg.rpar v hp h0)
    have h3 := (hn.of_ne (by rintro rfl; omega)).2
    exact ih (hg.rpar v hp h0) (h3.trans (hf v (par v) hp h0 (hg.rpar v hp h0) (hg.epar v hp h0) h1))

/-- A pass's end. -/
theorem Mid.fin (hg : DG R E pos par) (h : DInvP R E pos f P) (md : Mid R E pos f P g Q k ch) (hk : ∀ v, R v → pos v < k) : DInvP R E pos g Q := by
  have hQA : ∀ v, R v → Q v := fun v hv => (md.has v hv).2 (.inr (hk v hv))
  refine ⟨md.tr, .inr hQA, md.dom, fun v p hv h0 hp e hl => md.fwd v p (md.tr.sub v hv) h0 (hk v (md.tr.sub v hv)) hp e hl, fun _ x hx h0 n hn hall => ?_⟩
  refine md.q x hx h0 (hk x hx) n hn (fun p hp e _ => hall p hp e) (fun hA p hp e hl => ?_)
  obtain ⟨q, hq⟩ := first_ex hg h.tr (pos x) (pos_pos hg hx h0) _ p rfl (hA p hp)
  refine ⟨q, hq, ?_⟩
  have h1 := md.mono hA p hp (hk p hp) n (hall p hp e)
  have h2 := hq.2.2 n h1 hn
  have hqP := (hq.1.pl h.tr (hA p hp)).1
  refine down_path hg (fun v p hv h0 hp e hl => md.fwd v p hv h0 (hk v hv) hp e hl) (par_path hg (fun v p hv => h.fwd v p (hA v hv)) _ p q rfl hp hq.1) hp (hall p hp e) (h2.le h.tr hqP)

/-- The end: who is right above each place. -/
structure Exact (R : Nat → Prop) (E : Nat → Nat → Prop) (pos : Nat → Nat) (f : Nat → Nat) : Prop where
  tr : Tr R pos f R
  anc : ∀ v, R v → ∀ d, Anc f d v ↔ ¬ Av E d v

theorem Mid.exact (hg : DG R E pos par) (h : DInvP R E pos f P) (md : Mid R E pos f P g Q k false) (hk : ∀ v, R v → pos v < k) : Exact R E pos g := by
  obtain ⟨u1, u2⟩ := md.un rfl
  have hA : ∀ v, R v → P v := fun v hv => by
    by_cases h0 : v = 0
    · subst h0; exact h.tr.p0
    · exact (u2 v hv h0 (hk v hv)).1
  have hQA : ∀ v, R v → Q v := fun v hv => (md.has v hv).2 (.inr (hk v hv))
  have key : ∀ {a u : Nat}, P u → (Anc g a u ↔ Anc f a u) := by
    intro a u hu
    constructor
    · intro ha
      induction ha with
      | refl => exact .refl
      | up w hw0 _ ih =>
        rw [u1 w hu hw0] at ih
        exact .up w hw0 (ih (h.tr.up w hu hw0))
    · intro ha
      induction ha with
      | refl => exact .refl
      | up w hw0 _ ih => exact .up w hw0 (by rw [u1 w hu hw0]; exact ih (h.tr.up w hu hw0))
  refine ⟨⟨hg.r0, fun _ hv => hv, fun v hv h0 => md.tr.sub _ (md.tr.up v (hQA v hv) h0), fun v hv h0 => md.tr.lt v (hQA v hv) h0⟩, fun v hv d => ⟨fun ha hav => ?_, fun hd => dm_anc md.tr md.dom _ v d rfl (hQA v hv) hd⟩⟩
  rw [key (hA v hv)] at ha
  clear hv
  induction hav with
  | zero hne =>
    exact absurd rfl (ha.of_ne (fun e => hne e.symm)).1
  | step p x hp e hne ih =>
    have hpR := hp.reach hg
    have hxR := hg.step p x hpR e
    obtain ⟨h0, h1⟩ := ha.of_ne (fun e => hne e.symm)
    exact ih (h1.trans ((u2 x hxR h0 (hk x hxR)).2 p (hA p hpR) e))

/-- The beginning. -/
theorem DInvP.start (hg : DG R E pos par) (f : Nat → Nat) : DInvP R E pos f (fun v => v = 0) := by
  refine ⟨⟨rfl, fun v hv => by rw [hv]; exact hg.r0, fun v hv h0 => absurd hv h0, fun v hv h0 => absurd hv h0⟩, .inl (fun v hv => hv), fun v hv h0 => absurd hv h0, fun v _ hv h0 => absurd hv h0, fun hA x hx h0 => absurd (hA x hx) h0⟩

end
end Go.Proofs.YtjjkliifpdcliaaDoor

/-! The walk in depth gives the frame for 'who stands above whom': plain Lean. No program in sight. -/
namespace Go.Proofs.YtjjkliifpdcliaaDoor

/-- Each place that was come upon, but 0, was come upon by another. -/
def TInv (c : List (List Nat)) (s : Dfs) : Prop := ∀ x, s.st.getD x 0 ≠ 0 → x ≠ 0 → ∃ p q, q < s.nx.getD p 0 ∧ (c.getD p []).getD q 0 = x ∧ (p, x) ∉ s.back

theorem TInv.init (c : List (List Nat)) : TInv c (Dfs.init c.length) := by
  intro x h1 h0
  refine absurd ?_ h1
  show ((List.replicate c.length 0).set 0 1).getD x 0 = 0
  rw [getD_set_if, if_neg (by omega), List.getD_eq_getElem?_getD, List.getElem?_replicate]
  split <;> rfl

theorem ord_st {c : List (List Nat)} {s : Dfs} (h : DInv c s) (i : Nat) : i ∈ s.ord ↔ s.st.getD i 0 ≠ 0 := by
  unfold Dfs.ord
  rw [List.mem_append, List.mem_reverse, h.post2, h.stk1]
  have := h.rng i
  omega

theorem nodup_getD {l : List Nat} (h : l.Nodup) {i j : Nat} (hi : i < l.length) (hj : j < l.length) (e : l.getD i 0 = l.getD j 0) : i = j := by
  rw [List.getD_eq_getElem?_getD, List.getElem?_eq_getElem hi, List.getD_eq_getElem?_getD, List.getElem?_eq_getElem hj] at e
  exact nodup_get h hi hj e

theorem TInv.step {c : List (List Nat)} (hc : Clean c) {s : Dfs} (h : DInv c s) (hs : s.stk ≠ []) (ht : TInv c s) : TInv c (s.step c) := by
  have htop := h.toplt hs
  have htm : s.top ∈ s.stk := by rw [stk_split s hs]; simp
  have hts : s.st.getD s.top 0 = 1 := (h.stk1 _).1 htm
  have hnl : s.nx.length = c.length := h.lnx
  unfold Dfs.step
  split
  · rename_i e1
    intro x hx h0
    refine ht x ?_ h0
    intro e
    refine hx ?_
    show (s.st.set s.top 2).getD x 0 = 0
    rw [getD_set_if]
    split
    · rename_i e2; rw [← e2.1, hts] at e; omega
    · exact e
  · rename_i e1
    have hle := h.nxle s.top htop
    have hq : s.nx.getD s.top 0 < (c.getD s.top []).length := by omega
    have hmono : ∀ p q, q < s.nx.getD p 0 → q < (s.nx.set s.top (s.nx.getD s.top 0 + 1)).getD p 0 := fun p q hq2 => by
      rw [getD_set_if]
      split
      · rename_i e2; rw [e2.1]; omega
      · exact hq2
    have hnew : s.nx.getD s.top 0 < (s.nx.set s.top (s.nx.getD s.top 0 + 1)).getD s.top 0 := by
      rw [getD_set_if, if_pos ⟨rfl, by omega⟩]; omega
    split
    · rename_i e2
      intro x hx h0
      by_cases e3 : x = (c.getD s.top []).getD (s.nx.getD s.top 0) 0
      · refine ⟨s.top, s.nx.getD s.top 0, hnew, e3.symm, fun hb => ?_⟩
        have h3 := (ord_st h _).1 (h.bk _ _ hb).1
        rw [e3] at h3
        exact h3 e2
      · have hx2 : s.st.getD x 0 ≠ 0 := fun e => hx (by
          show (s.st.set _ 1).getD x 0 = 0
          rw [getD_set_if, if_neg (fun e4 => e3 e4.1.symm)]
          exact e)
        obtain ⟨p, q, h1, h2, h3⟩ := ht x hx2 h0
        exact ⟨p, q, hmono p q h1, h2, h3⟩
    · split
      · intro x hx h0
        obtain ⟨p, q, h1, h2, h3⟩ := ht x hx h0
        refine ⟨p, q, hmono p q h1, h2, fun hb => ?_⟩
        rcases List.mem_append.1 hb with hb | hb
        · exact h3 hb
        · rw [List.mem_singleton] at hb
          injection hb with e3 e4
          subst e3
          rw [e4] at h2
          have h4 := h.nxle s.top htop
          have := nodup_getD (hc _ htop).1 (by omega) hq h2
          omega
      · intro x hx h0
        obtain ⟨p, q, h1, h2, h3⟩ := ht x hx h0
        exact ⟨p, q, hmono p q h1, h2, h3⟩

theorem run_tinv {c : List (List Nat)} (hc : Clean c) (h0 : c ≠ []) (t : Nat) : TInv c (Dfs.run c (Dfs.init c.length) t) := by
  induction t with
  | zero => exact TInv.init c
  | succ t ih =>
    have e : Dfs.run c (Dfs.init c.length) (t + 1) = if (Dfs.run c (Dfs.init c.length) t).stk = [] then Dfs.run c (Dfs.init c.length) t else (Dfs.run c (Dfs.init c.length) t).step c := rfl
    rw [e]
    by_cases hs : (Dfs.run c (Dfs.init c.length) t).stk = []
    · rw [if_pos hs]; exact ih
    · rw [if_neg hs]; exact ih.step hc (run_inv hc h0 t).1 hs
theorem dfs_tinv {c : List (List Nat)} (hc : Clean c) (h0 : c ≠ []) : TInv c (dfs c) := by
  unfold dfs
  rw [if_neg h0]
  exact run_tinv hc h0 _

/-- The order: as the places were left, turned round. -/
def rpo (c : List (List Nat)) : List Nat := (dfs c).post.reverse
def posn (c : List (List Nat)) (v : Nat) : Nat := (rpo c).idxOf v
def Rd (c : List (List Nat)) (v : Nat) : Prop := v ∈ rpo c
def Ed (c : List (List Nat)) (p x : Nat) : Prop := x ∈ c.getD p []
instance (c : List (List Nat)) (v : Nat) : Decidable (Rd c v) := inferInstanceAs (Decidable (v ∈ rpo c))

theorem idxOf_rev {l : List Nat} (hn : l.Nodup) {x : Nat} (hx : x ∈ l) : l.reverse.idxOf x + l.idxOf x + 1 = l.length := by
  have h1 := List.idxOf_lt_length_iff.2 hx
  have h2 : x ∈ l.reverse := by simpa using hx
  have h3 := List.idxOf_lt_length_iff.2 h2
  have hnr : l.reverse.Nodup := by
    unfold List.Nodup at *
    rw [List.pairwise_reverse]
    exact hn.imp (fun h => h.symm)
  have e : l.reverse[l.length - 1 - l.idxOf x]'(by simp; omega) = x := by
    rw [List.getElem_reverse]
    have e2 : l.length - 1 - (l.length - 1 - l.idxOf x) = l.idxOf x := by omega
    simp only [e2]
    exact List.getElem_idxOf h1
  have e4 : l.reverse[l.reverse.idxOf x] = x := List.getElem_idxOf h3
  have := nodup_get hnr h3 (by simp; omega) (e4.trans e.symm)
  simp at h3
  omega

theorem dfs_dg {c : List (List Nat)} (hc : Clean c) (h0 : c ≠ []) : ∃ par, DG (Rd c) (Ed c) (posn c) par := by
  obtain ⟨hI, hk⟩ := dfs_inv hc h0
  have hT := dfs_tinv hc h0
  have hord : (dfs c).ord = (dfs c).post := by unfold Dfs.ord; rw [hk]; simp
  have hnd : (dfs c).post.Nodup := hord ▸ hI.nd
  have hpos : ∀ v, v ∈ (dfs c).post → posn c v + (dfs c).post.idxOf v + 1 = (dfs c).post.length := fun v hv => idxOf_rev hnd hv
  have hR : ∀ v, Rd c v ↔ v ∈ (dfs c).post := fun v => List.mem_reverse
  have hst : ∀ v, Rd c v ↔ (dfs c).st.getD v 0 ≠ 0 := fun v => by rw [hR, ← hord]; exact ord_st hI v
  have hlast : (dfs c).post.getLast? = some 0 := hord ▸ hI.last
  have h0m : (0 : Nat) ∈ (dfs c).post := List.mem_of_getLast? hlast
  have hedge : ∀ p q, p ∈ (dfs c).post → q < (c.getD p []).length → q < (dfs c).nx.getD p 0 := fun p q hp hq => by
    rw [hI.done p ((hI.post2 p).1 hp)]; exact hq
  have hfw : ∀ p x, Rd c x → x ≠ 0 → (∃ q, q < (dfs c).nx.getD p 0 ∧ (c.getD p []).getD q 0 = x ∧ (p, x) ∉ (dfs c).back) → Rd c p ∧ Ed c p x ∧ posn c p < posn c x := by
    rintro p x hx hx0 ⟨q, h1, h2, h3⟩
    have h4 := hI.fw p q h1 (by rw [h2]; exact h3)
    rw [hord, h2] at h4
    have hq2 : q < (c.getD p []).length := Nat.lt_of_lt_of_le h1 (hI.nxle p (hI.lt (hord ▸ h4.2)))
    refine ⟨(hR p).2 h4.2, ?_, ?_⟩
    · show x ∈ c.getD p []
      have e4 : (c.getD p []).getD q 0 = (c.getD p [])[q] := by rw [List.getD_eq_getElem?_getD, List.getElem?_eq_getElem hq2]; rfl
      rw [← h2, e4]
      exact List.getElem_mem hq2
    · have h5 := hpos p h4.2
      have h6 := hpos x ((hR x).1 hx)
      omega
  have hex : ∀ x, ∃ p, Rd c x → x ≠ 0 → Rd c p ∧ Ed c p x ∧ posn c p < posn c x := fun x => by
    by_cases hx : Rd c x ∧ x ≠ 0
    · obtain ⟨p, q, h1, h2, h3⟩ := hT x ((hst x).1 hx.1) hx.2
      exact ⟨p, fun _ _ => hfw p x hx.1 hx.2 ⟨q, h1, h2, h3⟩⟩
    · exact ⟨0, fun h1 h2 => absurd ⟨h1, h2⟩ hx⟩
  refine ⟨fun x => (hex x).choose, (hR 0).2 h0m, fun p x hp e => ?_, ?_, fun a b ha hb e => ?_, fun x hx h0 => ((hex x).choose_spec hx h0).1, fun x hx h0 => ((hex x).choose_spec hx h0).2.1, fun x hx h0 => ((hex x).choose_spec hx h0).2.2⟩
  · obtain ⟨q, hq, e2⟩ := List.getElem_of_mem e
    have e3 : (c.getD p []).getD q 0 = x := by rw [List.getD_eq_getElem?_getD, List.getElem?_eq_getElem hq]; exact e2
    have hqn := hedge p q ((hR p).1 hp) hq
    rw [hR, ← hord]
    by_cases hb : (p, x) ∈ (dfs c).back
    · exact (hI.bk p x hb).1
    · have h4 := hI.fw p q hqn (by rw [e3]; exact hb)
      rw [e3] at h4
      have h5 := List.idxOf_lt_length_iff.2 h4.2
      exact List.idxOf_lt_length_iff.1 (by omega)
  · have h1 := hpos 0 h0m
    have h2 : (dfs c).post.length - 1 < (dfs c).post.length := by
      have := List.length_pos_of_mem h0m; omega
    have e : (dfs c).post[(dfs c).post.length - 1] = 0 := by
      rw [List.getLast?_eq_getElem?, List.getElem?_eq_getElem h2] at hlast
      injection hlast
    have h3 := List.idxOf_lt_length_iff.2 h0m
    have e2 : (dfs c).post[(dfs c).post.idxOf 0] = 0 := List.getElem_idxOf h3
    have := nodup_get hnd h3 h2 (e2.trans e.symm)
    omega
  · have h1 := hpos a ((hR a).1 ha)
    have h2 := hpos b ((hR b).1 hb)
    have h3 := List.idxOf_lt_length_iff.2 ((hR a).1 ha)
    have h4 := List.idxOf_lt_length_iff.2 ((hR b).1 hb)
    have e3 : (dfs c).post.idxOf a = (dfs c).post.idxOf b := by omega
    have e1 : (dfs c).post[(dfs c).post.idxOf a] = a := List.getElem_idxOf h3
    have e2 : (dfs c).post[(dfs c).post.idxOf b] = b := List.getElem_idxOf h4
    rw [← e1, ← e2]
    simp only [e3]

theorem rpo_facts {c : List (List Nat)} (hc : Clean c) (h0 : c ≠ []) : (rpo c).Nodup ∧ (rpo c).getD 0 1 = 0 ∧ 0 < (rpo c).length ∧ (rpo c).length ≤ c.length ∧ ∀ v ∈ rpo c, v < c.length := by
  obtain ⟨hI, hk⟩ := dfs_inv hc h0
  have hord : (dfs c).ord = (dfs c).post := by unfold Dfs.ord; rw [hk]; simp
  have hnd : (dfs c).post.Nodup := hord ▸ hI.nd
  have hlast : (dfs c).post.getLast? = some 0 := hord ▸ hI.last
  have h0m : (0 : Nat) ∈ (dfs c).post := List.mem_of_getLast? hlast
  refine ⟨?_, ?_, ?_, ?_, fun v hv => ?_⟩
  · unfold rpo
    unfold List.Nodup at *
    rw [List.pairwise_reverse]
    exact hnd.imp (fun h => h.symm)
  · unfold rpo
    rw [List.getD_eq_getElem?_getD, ← List.head?_eq_getElem?, List.head?_reverse, hlast]; rfl
  · unfold rpo
    have := List.length_pos_of_mem h0m
    simpa using this
  · have := hI.ordle
    unfold rpo
    simp
    omega
  · unfold rpo at hv
    exact hI.lt (hord ▸ (List.mem_reverse.1 hv))

/-- A place that there is not stands behind all. -/
theorem reach_av {c : List (List Nat)} (hc : Clean c) (h0 : c ≠ []) (x : Nat) : Rd c x ↔ Av (Ed c) c.length x := by
  obtain ⟨par, hg⟩ := dfs_dg hc h0
  obtain ⟨_, _, _, _, h5⟩ := rpo_facts hc h0
  constructor
  · intro hx
    refine av_of_pos hg c.length _ x rfl hx ?_
    have h1 : c.length ∉ rpo c := fun hm => by have := h5 _ hm; omega
    have h2 : posn c c.length = (rpo c).length := List.idxOf_eq_length h1
    rw [h2]
    exact List.idxOf_lt_length_iff.2 hx
  · exact fun h => h.reach hg

end Go.Proofs.YtjjkliifpdcliaaDoor

/-! The passes of 'who stands above whom' over rows of integers (-1: none): plain Lean. No program in sight. -/
namespace Go.Proofs.YtjjkliifpdcliaaDoor

def fOf (ids : List Int) (v : Nat) : Nat := (ids.getD v (-1)).toNat
def qOf (ids : List Int) (v : Nat) : Prop := ids.getD v (-1) ≠ -1
instance (ids : List Int) (v : Nat) : Decidable (qOf ids v) := inferInstanceAs (Decidable (_ ≠ _))
structure WfI (n : Nat) (ids : List Int) : Prop where
  len : ids.length = n
  rng : ∀ v, -1 ≤ ids.getD v (-1) ∧ ids.getD v (-1) < n

theorem WfI.val {n : Nat} {ids : List Int} (h : WfI n ids) {v : Nat} (hq : qOf ids v) : ids.getD v (-1) = (fOf ids v : Nat) ∧ fOf ids v < n ∧ v < n := by
  have h1 := h.rng v
  have h2 : ids.getD v (-1) ≠ -1 := hq
  refine ⟨?_, ?_, ?_⟩
  · unfold fOf; omega
  · unfold fOf; omega
  · rcases Nat.lt_or_ge v n with hl | hl
    · exact hl
    · exact absurd (by rw [List.getD_eq_getElem?_getD, List.getElem?_eq_none (by rw [h.len]; exact hl)]; rfl) h2
theorem WfI.no {ids : List Int} {v : Nat} (hq : ¬ qOf ids v) : ids.getD v (-1) = -1 := Decidable.byContradiction hq

theorem getD_dflt {l : List Int} {v : Nat} (d e : Int) (h : v < l.length) : l.getD v d = l.getD v e := by
  rw [List.getD_eq_getElem?_getD, List.getD_eq_getElem?_getD, List.getElem?_eq_getElem h]; rfl

theorem fOf_set {n : Nat} {ids : List Int} (h : WfI n ids) {x m : Nat} (hx : x < n) (v : Nat) : fOf (ids.set x (m : Int)) v = if v = x then m else fOf ids v := by
  unfold fOf
  rw [getD_set_if]
  by_cases e : v = x
  · subst e
    rw [if_pos ⟨rfl, by rw [h.len]; exact hx⟩, if_pos rfl]; rfl
  · rw [if_neg (fun e2 => e e2.1.symm), if_neg e]
theorem qOf_set {n : Nat} {ids : List Int} (h : WfI n ids) {x m : Nat} (hx : x < n) (v : Nat) : qOf (ids.set x (m : Int)) v ↔ qOf ids v ∨ v = x := by
  unfold qOf
  rw [getD_set_if]
  by_cases e : v = x
  · subst e
    rw [if_pos ⟨rfl, by rw [h.len]; exact hx⟩]
    constructor
    · exact fun _ => .inr rfl
    · intro _; omega
  · rw [if_neg (fun e2 => e e2.1.symm)]
    simp [e]
theorem WfI.set {n : Nat} {ids : List Int} (h : WfI n ids) (x m : Nat) (hm : m < n) : WfI n (ids.set x (m : Int)) := by
  refine ⟨by rw [List.length_set]; exact h.len, fun v => ?_⟩
  rw [getD_set_if]
  split
  · omega
  · exact h.rng v

/-- How far above all the places are, in sum. -/
def rankI (c : List (List Nat)) (n : Nat) (u : Int) : Nat := if u = -1 then n + 1 else posn c u.toNat
def mu (c : List (List Nat)) (ids : List Int) : Nat := sumTo (ids.map (rankI c c.length)) c.length
theorem mu_set (c : List (List Nat)) {ids : List Int} (h : WfI c.length ids) {x : Nat} (m : Int) (hx : x < c.length) : mu c (ids.set x m) + rankI c c.length (ids.getD x (-1)) = mu c ids + rankI c c.length m := by
  unfold mu
  have h1 := sumTo_set (ids.map (rankI c c.length)) x (rankI c c.length m) c.length hx (by rw [List.length_map, h.len]; exact Nat.le_refl _)
  have e1 : (ids.map (rankI c c.length)).getD x 0 = rankI c c.length (ids.getD x (-1)) := by
    have hxl : x < ids.length := by rw [h.len]; exact hx
    rw [List.getD_eq_getElem?_getD, List.getElem?_map, List.getElem?_eq_getElem hxl, List.getD_eq_getElem?_getD, List.getElem?_eq_getElem hxl]; rfl
  rw [e1] at h1
  rw [List.map_set]
  exact h1

/-- Whoever stands above all of a row's places that have one. -/
def UpS (ids : List Int) (L : List Nat) (u : Int) : Prop :=
  (u = -1 ∧ ∀ p ∈ L, ¬ qOf ids p) ∨ ∃ m : Nat, u = m ∧ qOf ids m ∧ ∀ n, Anc (fOf ids) n m ↔ ∀ p ∈ L, qOf ids p → Anc (fOf ids) n p
theorem UpS.nil (ids : List Int) : UpS ids [] (-1) := .inl ⟨rfl, by simp⟩
theorem UpS.skip {ids : List Int} {L : List Nat} {u : Int} (h : UpS ids L u) {p : Nat} (hp : ¬ qOf ids p) : UpS ids (L ++ [p]) u := by
  rcases h with ⟨h1, h2⟩ | ⟨m, h1, h2, h3⟩
  · refine .inl ⟨h1, fun q hq => ?_⟩
    rcases List.mem_append.1 hq with hq | hq
    · exact h2 q hq
    · rw [List.mem_singleton] at hq; exact hq ▸ hp
  · refine .inr ⟨m, h1, h2, fun n => (h3 n).trans ⟨fun h q hq hqq => ?_, fun h q hq hqq => h q (List.mem_append_left _ hq) hqq⟩⟩
    rcases List.mem_append.1 hq with hq | hq
    · exact h q hq hqq
    · rw [List.mem_singleton] at hq; exact absurd (hq ▸ hqq) hp
theorem UpS.first {ids : List Int} {L : List Nat} (h : UpS ids L (-1)) {p : Nat} (hp : qOf ids p) : UpS ids (L ++ [p]) p := by
  rcases h with ⟨_, h2⟩ | ⟨m, h1, _⟩
  · refine .inr ⟨p, rfl, hp, fun n => ⟨fun h q hq hqq => ?_, fun h => h p (by simp) hp⟩⟩
    rcases List.mem_append.1 hq with hq | hq
    · exact absurd hqq (h2 q hq)
    · rw [List.mem_singleton] at hq; exact hq ▸ h
  · omega
theorem UpS.meet {ids : List Int} {L : List Nat} {m : Nat} (h : UpS ids L m) {p : Nat} (hp : qOf ids p) {r : Nat} (hr : qOf ids r) (hmeet : ∀ n, Anc (fOf ids) n r ↔ Anc (fOf ids) n m ∧ Anc (fOf ids) n p) : UpS ids (L ++ [p]) r := by
  rcases h with ⟨h1, _⟩ | ⟨m', h1, _, h3⟩
  · omega
  · have e : m' = m := by omega
    subst e
    refine .inr ⟨r, rfl, hr, fun n => (hmeet n).trans ⟨fun h q hq hqq => ?_, fun h => ⟨(h3 n).2 fun q hq => h q (List.mem_append_left _ hq), h p (by simp) hp⟩⟩⟩
    rcases List.mem_append.1 hq with hq | hq
    · exact (h3 n).1 h.1 q hq hqq
    · rw [List.mem_singleton] at hq; exact hq ▸ h.2

/-- Between the passes. -/
structure Betw (c : List (List Nat)) (ids : List Int) : Prop where
  wf : WfI c.length ids
  inv : DInvP (Rd c) (Ed c) (posn c) (fOf ids) (qOf ids)
  z : ids.getD 0 (-1) = 0
/-- In the midst of one. -/
structure PassS (c : List (List Nat)) (ids0 ids : List Int) (k : Nat) (ch : Bool) : Prop where
  old : Betw c ids0
  wf : WfI c.length ids
  mid : Mid (Rd c) (Ed c) (posn c) (fOf ids0) (qOf ids0) (fOf ids) (qOf ids) k ch
  le : mu c ids ≤ mu c ids0
  lt : ch = true → mu c ids < mu c ids0
  z : ids.getD 0 (-1) = 0

theorem PassS.start {c : List (List Nat)} (hc : Clean c) (h0 : c ≠ []) {ids : List Int} (h : Betw c ids) : PassS c ids ids 1 false := by
  obtain ⟨par, hg⟩ := dfs_dg hc h0
  exact ⟨h, h.wf, Mid.start hg h.inv, Nat.le_refl _, by simp, h.z⟩

theorem Betw.start {c : List (List Nat)} (hc : Clean c) (h0 : c ≠ []) : Betw c ((List.replicate c.length (-1 : Int)).set 0 0) := by
  obtain ⟨par, hg⟩ := dfs_dg hc h0
  have hl : 0 < c.length := List.length_pos_iff.2 h0
  have hr : WfI c.length (List.replicate c.length (-1 : Int)) := ⟨by simp, fun v => by
    rw [List.getD_eq_getElem?_getD, List.getElem?_replicate]
    split <;> simp <;> omega⟩
  have hw := hr.set 0 0 hl
  have hq : ∀ v, qOf ((List.replicate c.length (-1 : Int)).set 0 0) v ↔ v = 0 := fun v => by
    have := qOf_set hr (x := 0) (m := 0) hl v
    rw [show ((0 : Nat) : Int) = 0 from rfl] at this
    rw [this]
    constructor
    · rintro (h1 | h1)
      · exfalso
        refine h1 ?_
        rw [List.getD_eq_getElem?_getD, List.getElem?_replicate]
        split <;> rfl
      · exact h1
    · exact .inr
  have he : qOf ((List.replicate c.length (-1 : Int)).set 0 0) = fun v => v = 0 := funext fun v => propext (hq v)
  refine ⟨hw, ?_, ?_⟩
  · rw [he]
    exact DInvP.start hg _
  · rw [getD_set_if, if_pos ⟨rfl, by simp [hl]⟩]

theorem PassS.next {c : List (List Nat)} (hc : Clean c) (h0 : c ≠ []) {ids0 ids : List Int} {k : Nat} {ch : Bool} (h : PassS c ids0 ids k ch) (hk : 0 < k) (hkl : k < (rpo c).length) {u : Int}
    (hu : UpS ids ((predsL c).getD ((rpo c).getD k 0) []) u) :
    ∃ m : Nat, u = m ∧ m < c.length ∧ (u ≠ ids.getD ((rpo c).getD k 0) (-1) → PassS c ids0 (ids.set ((rpo c).getD k 0) u) (k + 1) true) ∧ (u = ids.getD ((rpo c).getD k 0) (-1) → PassS c ids0 ids (k + 1) ch) := by
  obtain ⟨par, hg⟩ := dfs_dg hc h0
  obtain ⟨n1, n2, n3, n4, n5⟩ := rpo_facts hc h0
  have hxe : (rpo c).getD k 0 = (rpo c)[k] := by rw [List.getD_eq_getElem?_getD, List.getElem?_eq_getElem hkl]; rfl
  have hxR : Rd c ((rpo c).getD k 0) := by rw [hxe]; exact List.getElem_mem hkl
  have hxk : posn c ((rpo c).getD k 0) = k := by
    rw [hxe]
    exact n1.idxOf_getElem k hkl
  generalize (rpo c).getD k 0 = x at *
  have hx0 : x ≠ 0 := by
    rintro rfl
    rw [hg.p0] at hxk
    omega
  have hxn : x < c.length := n5 x hxR
  have hpl : ∀ p, p ∈ (predsL c).getD x [] ↔ Ed c p x := fun p => by
    rw [predsL_get c x hxn]
    simp only [List.mem_filter, List.mem_range, decide_eq_true_eq]
    unfold Ed
    constructor
    · exact fun hh => hh.2
    · refine fun hh => ⟨?_, hh⟩
      rcases Nat.lt_or_ge p c.length with hl | hl
      · exact hl
      · rw [List.getD_eq_getElem?_getD, List.getElem?_eq_none hl] at hh; simp at hh
  have hpq : qOf ids (par x) := (h.mid.has _ (hg.rpar x hxR hx0)).2 (.inr (by have := hg.lpar x hxR hx0; omega))
  rcases hu with ⟨_, h2⟩ | ⟨m, rfl, hm, hmeet⟩
  · exact absurd hpq (h2 _ ((hpl _).2 (hg.epar x hxR hx0)))
  · have hmn := (h.wf.val hm).2.2
    have hmeet' : ∀ n, Anc (fOf ids) n m ↔ ∀ p, qOf ids p → Ed c p x → Anc (fOf ids) n p := fun n => (hmeet n).trans ⟨fun hh p hp e => hh p ((hpl p).2 e) hp, fun hh p hp hq => hh p hq ((hpl p).1 hp)⟩
    refine ⟨m, rfl, hmn, fun hne => ?_, fun heq => ?_⟩
    · obtain ⟨h1, h2, h3⟩ := Mid.next hg h.old.inv h.mid hxR hx0 hxk hm hmeet' (fOf (ids.set x (m : Int))) (fOf_set h.wf hxn) (qOf (ids.set x (m : Int))) (qOf_set h.wf hxn) true (by simp)
      have hmu := mu_set c h.wf (m : Int) hxn
      have hr1 : rankI c c.length (m : Int) = posn c m := by
        unfold rankI
        rw [if_neg (by omega)]; rfl
      have hlt : rankI c c.length (m : Int) < rankI c c.length (ids.getD x (-1)) := by
        rw [hr1]
        unfold rankI
        by_cases hq : qOf ids x
        · obtain ⟨e1, e2, e3⟩ := h.wf.val hq
          rw [if_neg hq, e1]
          have hP : qOf ids0 x := by
            rcases (h.mid.has x hxR).1 hq with hq | hq
            · exact hq
            · omega
          have hA : ∀ v, Rd c v → qOf ids0 v := by
            rcases h.old.inv.all with ha | ha
            · exact absurd (ha x hP) hx0
            · exact ha
          have h4 := h2 hA
          have hold := h.mid.old x hP (by omega)
          have h6 := (h4.pl h.old.inv.tr (h.old.inv.tr.up x hP hx0)).2
          rw [← hold] at h6
          rcases h6 with e5 | e5
          · exact absurd (by rw [e1, e5]) hne
          · exact e5
        · rw [if_pos (WfI.no hq)]
          have : posn c m < k := h3
          omega
      have hz := h.z
      refine ⟨h.old, h.wf.set x m hmn, h1, ?_, fun _ => ?_, ?_⟩
      · have := h.le; omega
      · have := h.le; omega
      · rw [getD_set_if, if_neg (fun e => hx0 e.1)]; exact hz
    · have hqx : qOf ids x := by
        unfold qOf
        rw [← heq]; omega
      have hfx : fOf ids x = m := by
        unfold fOf
        rw [← heq]; rfl
      obtain ⟨h1, _, _⟩ := Mid.next hg h.old.inv h.mid hxR hx0 hxk hm hmeet' (fOf ids) (fun v => by
        split
        · rename_i e; rw [e, hfx]
        · rfl) (qOf ids) (fun v => ⟨.inl, fun hh => by
        rcases hh with hh | hh
        · exact hh
        · exact hh ▸ hqx⟩) ch (fun hch => ⟨hch, by
        rcases (h.mid.has x hxR).1 hqx with hq | hq
        · exact hq
        · omega, hfx.symm⟩)
      exact ⟨h.old, h.wf, h1, h.le, h.lt, h.z⟩

/-- What comes of all passes. -/
def DomF (c : List (List Nat)) (ids : List Int) : Prop := ∃ f, Exact (Rd c) (Ed c) (posn c) f ∧ ids.length = c.length ∧ ∀ v, v < c.length → ids.getD v (-1) = if Rd c v ∧ v ≠ 0 then (f v : Int) else -1

theorem PassS.fin {c : List (List Nat)} (hc : Clean c) (h0 : c ≠ []) {ids0 ids : List Int} {ch : Bool} (h : PassS c ids0 ids (rpo c).length ch) : Betw c ids ∧ (ch = false → DomF c (ids.set 0 (-1))) := by
  obtain ⟨par, hg⟩ := dfs_dg hc h0
  have hk : ∀ v, Rd c v → posn c v < (rpo c).length := fun v hv => List.idxOf_lt_length_iff.2 hv
  refine ⟨⟨h.wf, Mid.fin hg h.old.inv h.mid hk, h.z⟩, fun hch => ?_⟩
  subst hch
  refine ⟨fOf ids, Mid.exact hg h.old.inv h.mid hk, by rw [List.length_set]; exact h.wf.len, fun v hv => ?_⟩
  rw [getD_set_if]
  by_cases e : v = 0
  · subst e
    rw [if_pos ⟨rfl, by rw [h.wf.len]; exact hv⟩, if_neg (by simp)]
  · rw [if_neg (fun e2 => e e2.1.symm)]
    by_cases hr : Rd c v
    · rw [if_pos ⟨hr, e⟩]
      have hq : qOf ids v := (h.mid.has v hr).2 (.inr (hk v hr))
      exact (h.wf.val hq).1
    · rw [if_neg (fun e2 => hr e2.1)]
      exact WfI.no (fun hq => hr (h.mid.tr.sub v hq))

end Go.Proofs.YtjjkliifpdcliaaDoor

/-! Where each place stands in a row, as rows of integers: plain. -/
namespace Go.Proofs.YtjjkliifpdcliaaDoor
open Go.RowKit

/-- Where a place stands in a row; -1: nowhere. -/
def atv (o : List Nat) (i : Nat) : Int := if i ∈ o then (o.idxOf i : Int) else -1
def atR (o : List Nat) (n : Nat) : List Int := (List.range n).map (atv o)
theorem atR_len (o : List Nat) (n : Nat) : (atR o n).length = n := by simp [atR]
theorem atR_get (o : List Nat) (n i : Nat) (h : i < n) : (atR o n).getD i 0 = atv o i := by
  simp [atR, List.getD_eq_getElem?_getD, h]
/-- The first m places hold -1. -/
def atM (n m : Nat) : List Int := (List.range n).map fun i => if i < m then -1 else 0
theorem atM_len (n m : Nat) : (atM n m).length = n := by simp [atM]
theorem atM_zero (n : Nat) : atM n 0 = List.replicate n 0 := by
  apply List.ext_getElem
  · simp [atM]
  · intro i h1 h2; simp [atM]
theorem atM_step (n m : Nat) (_h : m < n) : (atM n m).set m (-1) = atM n (m + 1) := by
  unfold atM
  apply List.ext_getElem
  · simp
  · intro k h1 h2
    simp only [List.getElem_set, List.getElem_map, List.getElem_range]
    by_cases e : m = k
    · subst e; simp
    · rw [if_neg e]
      by_cases e2 : k < m
      · rw [if_pos e2, if_pos (by omega)]
      · rw [if_neg e2, if_neg (by omega)]
theorem atM_all (n : Nat) : atM n n = atR [] n := by
  unfold atM atR
  refine List.map_congr_left (fun i hi => ?_)
  rw [List.mem_range] at hi
  rw [if_pos hi]
  simp [atv]
theorem atv_nonneg (o : List Nat) (i : Nat) : 0 ≤ atv o i ↔ i ∈ o := by
  unfold atv
  split
  · simp [*]
  · constructor
    · intro h; omega
    · intro h; contradiction
theorem idxOf_cons_ne' {a x : Nat} (l : List Nat) (h : a ≠ x) : (a :: l).idxOf x = l.idxOf x + 1 := by
  rw [List.idxOf_cons]
  have : (a == x) = false := by simpa using h
  rw [this]; rfl
theorem idxOf_snoc (a : List Nat) (x k : Nat) (hx : x ∉ a) : (a ++ [x]).idxOf k = if k ∈ a then a.idxOf k else if k = x then a.length else a.length + 1 := by
  rw [List.idxOf_append]
  split
  · rfl
  · by_cases e : k = x
    · subst e; simp
    · rw [if_neg e]
      rw [idxOf_cons_ne' _ (Ne.symm e)]
      simp only [List.idxOf_nil]
      omega
theorem take_snoc {α : Type} (l : List α) (m : Nat) (d : α) (h : m < l.length) : l.take (m + 1) = l.take m ++ [l.getD m d] := by
  rw [List.take_succ_eq_append_getElem h, List.getD_eq_getElem?_getD, List.getElem?_eq_getElem h]
  rfl
theorem take_not (o : List Nat) (m : Nat) (hn : o.Nodup) (h : m < o.length) : o.getD m 0 ∉ o.take m := by
  intro hm
  have e := take_snoc o m 0 h
  have hs : (o.take (m + 1)).Nodup := hn.sublist (List.take_sublist _ _)
  rw [e, List.nodup_append] at hs
  exact hs.2.2 _ hm _ (by simp) rfl
theorem atR_step (o : List Nat) (n m : Nat) (hn : o.Nodup) (h : m < o.length) : (atR (o.take m) n).set (o.getD m 0) (m : Int) = atR (o.take (m + 1)) n := by
  have hno := take_not o m hn h
  rw [take_snoc o m 0 h]
  generalize o.getD m 0 = x at hno
  have hlen : (o.take m).length = m := by simp; omega
  generalize o.take m = a at hno hlen
  unfold atR
  apply List.ext_getElem
  · simp
  · intro k h1 h2
    simp only [List.getElem_set, List.getElem_map, List.getElem_range]
    unfold atv
    rw [idxOf_snoc a x k hno]
    by_cases e : x = k
    · subst e
      rw [if_pos rfl, if_pos (by simp), if_neg hno, if_pos rfl, hlen]
    · rw [if_neg e]
      by_cases e2 : k ∈ a
      · rw [if_pos e2, if_pos (by simp [e2]), if_pos e2]
      · rw [if_neg e2, if_neg (by simp [e2]; exact fun e3 => e e3.symm)]

end Go.Proofs.YtjjkliifpdcliaaDoor

/-! The tree's depths and kids, place by place in the order: plain Lean. No program in sight. -/
namespace Go.Proofs.YtjjkliifpdcliaaDoor

/-- How many stand above, by so many steps. -/
def depF (f : Nat → Nat) : Nat → Nat → Nat
  | 0, _ => 0
  | k + 1, v => if v = 0 then 0 else depF f k (f v) + 1
def dep (c : List (List Nat)) (f : Nat → Nat) (v : Nat) : Nat := depF f (posn c v) v

theorem depF_zero (f : Nat → Nat) (k : Nat) : depF f k 0 = 0 := by cases k <;> simp [depF]
theorem depF_more {c : List (List Nat)} {E : Nat → Nat → Prop} {par f : Nat → Nat} (hg : DG (Rd c) E (posn c) par) (t : Tr (Rd c) (posn c) f (Rd c)) : ∀ n v k, posn c v = n → Rd c v → n ≤ k → depF f k v = depF f n v := by
  intro n
  induction n using Nat.strongRecOn with
  | _ n ih =>
    intro v k hn hv hk
    by_cases h0 : v = 0
    · subst h0; rw [depF_zero, depF_zero]
    · have hp := pos_pos hg hv h0
      have hl := t.lt v hv h0
      obtain ⟨n', rfl⟩ : ∃ n', n = n' + 1 := ⟨n - 1, by omega⟩
      obtain ⟨k', rfl⟩ : ∃ k', k = k' + 1 := ⟨k - 1, by omega⟩
      show (if v = 0 then 0 else depF f k' (f v) + 1) = if v = 0 then 0 else depF f n' (f v) + 1
      rw [if_neg h0, if_neg h0]
      have h1 := ih _ (by omega) (f v) k' rfl (t.up v hv h0) (by omega)
      have h2 := ih _ (by omega) (f v) n' rfl (t.up v hv h0) (by omega)
      rw [h1, h2]
theorem dep_zero (c : List (List Nat)) (f : Nat → Nat) : dep c f 0 = 0 := depF_zero f _
theorem dep_step {c : List (List Nat)} {E : Nat → Nat → Prop} {par f : Nat → Nat} (hg : DG (Rd c) E (posn c) par) (t : Tr (Rd c) (posn c) f (Rd c)) {v : Nat} (hv : Rd c v) (h0 : v ≠ 0) : dep c f v = dep c f (f v) + 1 := by
  have hp := pos_pos hg hv h0
  have hl := t.lt v hv h0
  have e : dep c f v = depF f (posn c v) v := rfl
  rw [e]
  obtain ⟨n', hn'⟩ : ∃ n', posn c v = n' + 1 := ⟨posn c v - 1, by omega⟩
  rw [hn']
  show (if v = 0 then 0 else depF f n' (f v) + 1) = _
  rw [if_neg h0, depF_more hg t _ (f v) n' rfl (t.up v hv h0) (by omega)]; rfl
theorem dep_le (c : List (List Nat)) (f : Nat → Nat) (v : Nat) : dep c f v ≤ posn c v := by
  have key : ∀ k v, depF f k v ≤ k := by
    intro k
    induction k with
    | zero => intro v; exact Nat.le_refl _
    | succ k ih =>
      intro v
      show (if v = 0 then 0 else depF f k (f v) + 1) ≤ _
      split
      · omega
      · have := ih (f v); omega
  exact key _ v

/-- The depths of the first m places of the order; 0: the others. -/
def depR (c : List (List Nat)) (f : Nat → Nat) (m : Nat) : List Int := (List.range c.length).map fun v => if v ∈ (rpo c).take m then (dep c f v : Int) else 0
theorem depR_len (c : List (List Nat)) (f : Nat → Nat) (m : Nat) : (depR c f m).length = c.length := by simp [depR]
theorem depR_get (c : List (List Nat)) (f : Nat → Nat) (m v : Nat) (h : v < c.length) : (depR c f m).getD v 0 = if v ∈ (rpo c).take m then (dep c f v : Int) else 0 := by
  simp [depR, List.getD_eq_getElem?_getD, h]
theorem depR_zero (c : List (List Nat)) (f : Nat → Nat) (h : (rpo c).getD 0 1 = 0) (hl : 0 < (rpo c).length) : depR c f 1 = List.replicate c.length 0 := by
  apply List.ext_getElem
  · simp [depR]
  · intro i h1 h2
    simp only [depR, List.getElem_map, List.getElem_range, List.getElem_replicate]
    split
    · rename_i hm
      have e : (rpo c).take 1 = [0] := by
        have e2 : (rpo c)[0] = 0 := by
          rw [List.getD_eq_getElem?_getD, List.getElem?_eq_getElem hl] at h; exact h
        rw [List.take_succ_eq_append_getElem hl, e2]; rfl
      rw [e, List.mem_singleton] at hm
      rw [hm, dep_zero]; rfl
    · rfl
theorem depR_step (c : List (List Nat)) (f : Nat → Nat) (m : Nat) (h : m < (rpo c).length) : (depR c f m).set ((rpo c).getD m 0) (dep c f ((rpo c).getD m 0)) = depR c f (m + 1) := by
  unfold depR
  rw [take_snoc (rpo c) m 0 h]
  generalize (rpo c).getD m 0 = x
  generalize (rpo c).take m = a
  apply List.ext_getElem
  · simp
  · intro k h1 h2
    simp only [List.getElem_set, List.getElem_map, List.getElem_range, List.mem_append, List.mem_singleton]
    by_cases e : x = k
    · subst e; simp
    · rw [if_neg e]
      have : ¬ k = x := fun e2 => e e2.symm
      simp [this]

/-- The kids of v among the first m places of the order. -/
def kidP (c : List (List Nat)) (f : Nat → Nat) (m v : Nat) : List Nat := ((rpo c).take m).filter fun i => decide (i ≠ 0 ∧ f i = v)
def kidsP (c : List (List Nat)) (f : Nat → Nat) (m : Nat) : List (List Nat) := (List.range c.length).map (kidP c f m)
theorem kidsP_len (c : List (List Nat)) (f : Nat → Nat) (m : Nat) : (kidsP c f m).length = c.length := by simp [kidsP]
theorem kidsP_get (c : List (List Nat)) (f : Nat → Nat) (m v : Nat) (h : v < c.length) : (kidsP c f m).getD v [] = kidP c f m v := by
  simp [kidsP, List.getD_eq_getElem?_getD, h]
theorem kidsP_one (c : List (List Nat)) (f : Nat → Nat) (h : (rpo c).getD 0 1 = 0) (hl : 0 < (rpo c).length) : kidsP c f 1 = List.replicate c.length [] := by
  have e : (rpo c).take 1 = [0] := by
    have e2 : (rpo c)[0] = 0 := by
      rw [List.getD_eq_getElem?_getD, List.getElem?_eq_getElem hl] at h; exact h
    rw [List.take_succ_eq_append_getElem hl, e2]; rfl
  apply List.ext_getElem
  · simp [kidsP]
  · intro i h1 h2
    simp [kidsP, kidP, e]
theorem kidsP_step (c : List (List Nat)) (f : Nat → Nat) (m : Nat) (h : m < (rpo c).length) (h0 : (rpo c).getD m 0 ≠ 0) (hf : f ((rpo c).getD m 0) < c.length) :
    (kidsP c f m).set (f ((rpo c).getD m 0)) ((kidsP c f m).getD (f ((rpo c).getD m 0)) [] ++ [(rpo c).getD m 0]) = kidsP c f (m + 1) := by
  rw [kidsP_get c f m _ hf]
  unfold kidsP kidP
  rw [take_snoc (rpo c) m 0 h]
  generalize (rpo c).getD m 0 = x at h0 hf
  generalize (rpo c).take m = a
  apply List.ext_getElem
  · simp
  · intro k h1 h2
    simp only [List.getElem_set, List.getElem_map, List.getElem_range, List.filter_append]
    by_cases e : f x = k
    · subst e; simp [h0]
    · rw [if_neg e]
      simp [e]

/-- The kids, rising. -/
def kidF (c : List (List Nat)) (f : Nat → Nat) (v : Nat) : List Nat := (List.range c.length).filter fun i => decide (Rd c i ∧ i ≠ 0 ∧ f i = v)
def kidsF (c : List (List Nat)) (f : Nat → Nat) : List (List Nat) := (List.range c.length).map (kidF c f)
theorem kidsF_get (c : List (List Nat)) (f : Nat → Nat) (v : Nat) (h : v < c.length) : (kidsF c f).getD v [] = kidF c f v := by
  simp [kidsF, List.getD_eq_getElem?_getD, h]
theorem kidsF_len (c : List (List Nat)) (f : Nat → Nat) : (kidsF c f).length = c.length := by simp [kidsF]
/-- The first k rows sorted. -/
def kidsS (c : List (List Nat)) (f : Nat → Nat) (k : Nat) : List (List Nat) := (List.range c.length).map fun v => if v < k then kidF c f v else kidP c f (rpo c).length v
theorem kidsS_len (c : List (List Nat)) (f : Nat → Nat) (k : Nat) : (kidsS c f k).length = c.length := by simp [kidsS]
theorem kidsS_get (c : List (List Nat)) (f : Nat → Nat) (k v : Nat) (h : v < c.length) : (kidsS c f k).getD v [] = if v < k then kidF c f v else kidP c f (rpo c).length v := by
  simp [kidsS, List.getD_eq_getElem?_getD, h]
theorem kidsS_zero (c : List (List Nat)) (f : Nat → Nat) : kidsS c f 0 = kidsP c f (rpo c).length := by simp [kidsS, kidsP]
theorem kidsS_all (c : List (List Nat)) (f : Nat → Nat) : kidsS c f c.length = kidsF c f := by
  unfold kidsS kidsF
  refine List.map_congr_left (fun v hv => ?_)
  rw [List.mem_range] at hv
  rw [if_pos hv]
theorem kidsS_step (c : List (List Nat)) (f : Nat → Nat) (k : Nat) (_h : k < c.length) : (kidsS c f k).set k (kidF c f k) = kidsS c f (k + 1) := by
  unfold kidsS
  apply List.ext_getElem
  · simp
  · intro i h1 h2
    simp only [List.getElem_set, List.getElem_map, List.getElem_range]
    by_cases e : k = i
    · subst e; simp
    · rw [if_neg e]
      by_cases e2 : i < k
      · rw [if_pos e2, if_pos (by omega)]
      · rw [if_neg e2, if_neg (by omega)]

theorem ints_lt_pw {l : List Nat} (h : l.Pairwise (· < ·)) : (ints l).Pairwise (· < ·) := by
  unfold ints
  rw [List.pairwise_map]
  exact h.imp (fun h => by omega)
theorem mem_ints {l : List Nat} {x : Int} : x ∈ ints l ↔ ∃ y, y ∈ l ∧ (y : Int) = x := by
  unfold ints; rw [List.mem_map]

/-- What the library's sort answers. -/
theorem sort_kid {c : List (List Nat)} (hc : Clean c) (h0 : c ≠ []) (f : Nat → Nat) (v : Nat) : ((ints (kidP c f (rpo c).length v)).mergeSort fun x y => decide (x ≤ y)) = ints (kidF c f v) := by
  obtain ⟨n1, _, _, _, n5⟩ := rpo_facts hc h0
  have hn : (kidP c f (rpo c).length v).Nodup := by
    unfold kidP
    rw [List.take_length]
    exact n1.sublist (List.filter_sublist)
  refine sorted_eq _ _ ?_ (ints_lt_pw ?_) (fun x => ?_)
  · have h1 : ((ints (kidP c f (rpo c).length v)).mergeSort fun x y => decide (x ≤ y)).Pairwise fun a b => (decide (a ≤ b)) = true := List.pairwise_mergeSort (fun a b c => by simp; omega) (fun a b => by simp; omega) _
    have h2 : ((ints (kidP c f (rpo c).length v)).mergeSort fun x y => decide (x ≤ y)).Nodup := (List.mergeSort_perm _ _).nodup_iff.2 (by
      unfold ints
      unfold List.Nodup at *
      rw [List.pairwise_map]
      exact hn.imp (fun h e => h (by omega)))
    unfold List.Nodup at h2
    exact (List.pairwise_and_iff.2 ⟨h1, h2⟩).imp (fun h => by
      have := h.1
      simp at this
      have := h.2
      omega)
  · unfold kidF
    exact (List.pairwise_lt_range).filter _
  · rw [(List.mergeSort_perm _ _).mem_iff, mem_ints, mem_ints]
    unfold kidP kidF
    rw [List.take_length]
    simp only [List.mem_filter, List.mem_range, decide_eq_true_eq]
    constructor
    · rintro ⟨y, ⟨h1, h2⟩, e⟩
      exact ⟨y, ⟨n5 y h1, h1, h2⟩, e⟩
    · rintro ⟨y, ⟨_, h1, h2⟩, e⟩
      exact ⟨y, ⟨h1, h2⟩, e⟩

theorem mem_take_idx {l : List Nat} {x m : Nat} (hx : x ∈ l) (h : l.idxOf x < m) : x ∈ l.take m := by
  have h1 := List.idxOf_lt_length_iff.2 hx
  have e : l[l.idxOf x] = x := List.getElem_idxOf h1
  have e2 : (l.take m)[l.idxOf x]'(by simp; omega) = x := by rw [List.getElem_take]; exact e
  exact e2 ▸ List.getElem_mem _

/-- The place that is the m'th of the order: who is right above it, how deep it stands. -/
theorem ord_step {c : List (List Nat)} (hc : Clean c) (h0 : c ≠ []) {f : Nat → Nat} (ex : Exact (Rd c) (Ed c) (posn c) f) {m : Nat} (hm : 0 < m) (hl : m < (rpo c).length) :
    Rd c ((rpo c).getD m 0) ∧ (rpo c).getD m 0 ≠ 0 ∧ (rpo c).getD m 0 < c.length ∧ f ((rpo c).getD m 0) < c.length ∧ f ((rpo c).getD m 0) ∈ (rpo c).take m ∧ dep c f ((rpo c).getD m 0) = dep c f (f ((rpo c).getD m 0)) + 1 ∧ dep c f ((rpo c).getD m 0) ≤ m := by
  obtain ⟨par, hg⟩ := dfs_dg hc h0
  obtain ⟨n1, n2, n3, n4, n5⟩ := rpo_facts hc h0
  have hxe : (rpo c).getD m 0 = (rpo c)[m] := by rw [List.getD_eq_getElem?_getD, List.getElem?_eq_getElem hl]; rfl
  have hxR : Rd c ((rpo c).getD m 0) := by rw [hxe]; exact List.getElem_mem hl
  have hxk : posn c ((rpo c).getD m 0) = m := by
    rw [hxe]
    exact n1.idxOf_getElem m hl
  generalize (rpo c).getD m 0 = x at *
  have hx0 : x ≠ 0 := by
    rintro rfl
    rw [hg.p0] at hxk
    omega
  have hf := ex.tr.up x hxR hx0
  have hlt := ex.tr.lt x hxR hx0
  refine ⟨hxR, hx0, n5 x hxR, n5 _ hf, mem_take_idx hf (by unfold posn at hlt hxk; omega), dep_step hg ex.tr hxR hx0, ?_⟩
  have := dep_le c f x
  omega

end Go.Proofs.YtjjkliifpdcliaaDoor
