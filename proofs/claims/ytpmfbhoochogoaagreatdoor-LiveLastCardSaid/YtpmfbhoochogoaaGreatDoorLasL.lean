/- The look at a method, plain: a row with ways back. LiveLast, plain: the law's program is verified; what is live where. -/
import Derived.Test.YtpmfbhoochogoaaGreatDoorVerL11
import Derived.Test.YtpmfbhoochogoaaGreatDoorStoL
/-! The look at a method, plain: a row with ways back. -/
namespace Go.Proofs.YtpmfbhoochogoaaGreatDoor

theorem strS_back {n : Nat} (st : Nat → List UInt8) {i j : Nat} (hi : i < n) (hj : j ≤ i) (he : st j = st (i + 1)) : Lk.to n (strS n st (i + 1) i) (j : Int) (st (i + 1)) = .ok (strS n st (i + 1) i) := by
  unfold Lk.to
  have hs : (strS n st (i + 1) i).seen.getD j false = true := by
    show ((List.range n).map fun j => decide (j ≤ i)).getD j false = true
    rw [range_getD, if_pos (by omega)]; simp [hj]
  have ht : (strS n st (i + 1) i).stk.getD j [] = st j := by
    show ((List.range n).map fun j => if j ≤ i then st j else []).getD j [] = _
    rw [range_getD, if_pos (by omega), if_pos hj]
  rw [if_neg (by omega), Int.toNat_natCast, hs, if_neg (by decide), ht, if_neg (fun h => h he)]

/-- A row with ways back. -/
structure RowB (p : Prg) (m : Meth) (st : Nat → List UInt8) (L : Nat) : Prop where
  len : L < m.code.length
  start : st 0 = []
  go : ∀ i, i < L → behL p m (m.code.getD i default) (st i) = .ok (st (i + 1))
  next : ∀ i : Nat, i < L → nextL m.code i = [(i : Int) + 1] ∨ ∃ j : Nat, j ≤ i ∧ nextL m.code i = [(j : Int), (i : Int) + 1] ∧ st j = st (i + 1)
theorem RowB.run {p : Prg} {m : Meth} {st : Nat → List UInt8} {L : Nat} (h : RowB p m st L) : ∀ i, i ≤ L → Lk.run p m i = .ok (strS m.code.length st i i)
  | 0, _ => by
    show Except.ok (Lk.init m.code.length) = _
    rw [strS_start st h.start]
  | i + 1, hi => by
    have hl := h.len
    show (match Lk.run p m i with | .error e => Except.error e | .ok s => if s.pick m.code.length = m.code.length then .ok s else s.step p m) = _
    rw [h.run i (by omega)]
    simp only
    have hp := strS_pick st (show i < m.code.length by omega)
    rw [hp, if_neg (by omega)]
    unfold Lk.step
    simp only [hp]
    have h2 := strS_take st (show i < m.code.length by omega)
    unfold Lk.take at h2
    rw [strS_stk st (show i < m.code.length by omega)] at h2
    rw [strS_stk st (show i < m.code.length by omega), h.go i (by omega)]
    rcases h.next i (by omega) with h3 | ⟨j, h4, h3, h5⟩
    · rw [h3]
      simp only [h2, List.foldlM_cons, List.foldlM_nil, strS_to st (show i + 1 < m.code.length by omega)]
      rfl
    · rw [h3]
      have h6 := strS_back st (show i < m.code.length by omega) h4 h5
      have h7 := strS_to st (show i + 1 < m.code.length by omega)
      have h8 : ([(j : Int), (i : Int) + 1].foldlM (fun s k => Lk.to m.code.length s k (st (i + 1))) (strS m.code.length st (i + 1) i)) = .ok (strS m.code.length st (i + 1) (i + 1)) := by
        rw [List.foldlM_cons, h6]
        show ([(i : Int) + 1].foldlM (fun s k => Lk.to m.code.length s k (st (i + 1))) (strS m.code.length st (i + 1) i)) = _
        rw [List.foldlM_cons, h7]
        rfl
      simp only [h2, h8]
theorem RowB.ret {p : Prg} {m : Meth} {st : Nat → List UInt8} {L : Nat} (h : RowB p m st L) (hr : behL p m (m.code.getD L default) (st L) = .ok (st (L + 1))) (hn : nextL m.code L = []) : lookM p m = .ok (strS m.code.length st (L + 1) L) := by
  have hp := strS_pick st h.len
  have hl := h.len
  have h1 : Lk.run p m (L + 1) = .ok (strS m.code.length st (L + 1) L) := by
    show (match Lk.run p m L with | .error e => Except.error e | .ok s => if s.pick m.code.length = m.code.length then .ok s else s.step p m) = _
    rw [h.run L (Nat.le_refl L)]
    simp only
    rw [hp, if_neg (by omega)]
    unfold Lk.step
    simp only [hp]
    rw [strS_stk st h.len, hr, hn]
    have h2 := strS_take st h.len
    unfold Lk.take at h2
    rw [strS_stk st h.len] at h2
    simp only [h2, List.foldlM_nil]
    rfl
  have h3 : (strS m.code.length st (L + 1) L).pick m.code.length = m.code.length := by
    refine pick_none (fun j hj => ?_)
    show (((List.range m.code.length).map fun j => decide (j ≤ L)).getD j false && !((List.range m.code.length).map fun j => decide (j < L + 1)).getD j false) = false
    rw [range_getD, range_getD, if_pos hj, if_pos hj]
    by_cases h4 : j ≤ L
    · rw [decide_eq_true (show j < L + 1 by omega), Bool.not_true, Bool.and_false]
    · rw [decide_eq_false h4, Bool.false_and]
  have h4 := run_stay h1 h3 (m.code.length - L)
  rwa [show L + 1 + (m.code.length - L) = m.code.length + 1 by omega] at h4

end Go.Proofs.YtpmfbhoochogoaaGreatDoor

/-! LiveLast, plain: the law's program is verified; what is live where. -/
/-! LiveLast, plain. -/
namespace Go.Proofs.YtpmfbhoochogoaaGreatDoor
open Go.RowKit

/-- The law's code, and its method. -/
def lasT (lp : Bool) : List Ins := if lp then [⟨34, 0, 0, 0⟩, ⟨23, 0, 0, 0⟩, ⟨33, 0, 0, 0⟩] else [⟨33, 0, 0, 0⟩]
def lasC (t loc n : Nat) (lp : Bool) : List Ins := lastP t (loc : Int) n ++ lasT lp
def lasM (t loc n : Nat) (lp : Bool) : Meth := ⟨⟨#[]⟩, ⟨#[73, 73, 73]⟩, ⟨#[]⟩, lasC t loc n lp⟩
def lasP (t loc n : Nat) (lp : Bool) : Prg := ⟨[], [r8, lasM t loc n lp]⟩
/-- Where its Ret stands. -/
def lasL (n : Nat) (lp : Bool) : Nat := if lp then 2 * n + 2 else 2 * n
theorem lasC_len (t loc n : Nat) (lp : Bool) : (lasC t loc n lp).length = lasL n lp + 1 := by
  unfold lasC lasL
  rw [List.length_append, lastP_len]
  cases lp <;> rfl
theorem lasL_even (n : Nat) (lp : Bool) : lasL n lp % 2 = 0 := by unfold lasL; split <;> omega
theorem las_kinds (t loc n : Nat) (lp : Bool) : kindsL (lasM t loc n lp) = [lI, lI, lI] := by
  show (⟨#[]⟩ : ByteArray).toList ++ (⟨#[73, 73, 73]⟩ : ByteArray).toList = _
  decide +kernel
theorem las_at {loc : Nat} (h : loc < 3) (t l2 n : Nat) (lp : Bool) : atB (kindsL (lasM t l2 n lp)) (loc : Int) = [lI] := by
  rw [las_kinds]
  have : loc = 0 ∨ loc = 1 ∨ loc = 2 := by omega
  rcases this with rfl | rfl | rfl <;> decide
theorem lasC_low (t loc n : Nat) (lp : Bool) {i : Nat} (h : i < 2 * n) : (lasC t loc n lp).getD i default = lastI t (loc : Int) i := lastP_get t loc n i _ h
theorem lasC_hi (t loc n i : Nat) (lp : Bool) : (lasC t loc n lp).getD (2 * n + i) default = (lasT lp).getD i default := last_at t loc n i _
theorem lasC_end (t loc n : Nat) (lp : Bool) : (lasC t loc n lp).getD (lasL n lp) default = ⟨33, 0, 0, 0⟩ := by
  cases lp with
  | true => exact lasC_hi t loc n 2 true
  | false => exact lasC_hi t loc n 0 false
theorem las_ins (t loc n : Nat) (lp : Bool) (hl : loc < 3) (i : Nat) (hi : i < lasL n lp) :
    (i % 2 = 0 → PushI (lasM t loc n lp) ((lasC t loc n lp).getD i default)) ∧ (i % 2 ≠ 0 → PullI (lasM t loc n lp) ((lasC t loc n lp).getD i default)) ∧ insCode [] 2 (lasM t loc n lp) ((lasC t loc n lp).getD i default) = 0 ∧ ((lasC t loc n lp).getD i default).bd := by
  have hz : (lasM t loc n lp).params.size = 0 := rfl
  have hz2 : (lasM t loc n lp).locals.size = 3 := rfl
  have hcl : (lasM t loc n lp).code.length = lasL n lp + 1 := lasC_len t loc n lp
  by_cases h : i < 2 * n
  · rw [lasC_low _ _ _ _ h]
    unfold lastI
    by_cases h1 : i % 2 = 1
    · rw [if_pos h1]
      exact ⟨fun h2 => by omega, fun _ => .inl rfl, by simp [insCode, UA, UB], bd_tiny (by decide)⟩
    · rw [if_neg h1]
      by_cases h2 : i = 2 * t
      · rw [if_pos h2]
        refine ⟨fun _ => .inr (.inr ⟨rfl, las_at hl _ _ _ _⟩), fun h3 => by omega, ?_, bd_tiny (by omega)⟩
        unfold insCode
        rw [hz, hz2]
        simp [UA, UB]
        omega
      · rw [if_neg h2]
        exact ⟨fun _ => .inl rfl, fun h3 => by omega, by simp [insCode, UA, UB], bd_tiny (by decide)⟩
  · cases lp with
    | false => unfold lasL at hi; simp at hi; omega
    | true =>
      unfold lasL at hi
      simp at hi
      have hc : i = 2 * n + 0 ∨ i = 2 * n + 1 := by omega
      rcases hc with rfl | rfl
      · rw [lasC_hi]
        exact ⟨fun _ => .inr (.inl rfl), fun h3 => by omega, by show insCode [] 2 _ ⟨34, 0, 0, 0⟩ = 0; simp [insCode, UA, UB], bd_tiny (by decide)⟩
      · rw [lasC_hi]
        refine ⟨fun h3 => by omega, fun _ => .inr (.inl rfl), ?_, bd_tiny (by decide)⟩
        show insCode [] 2 _ ⟨23, 0, 0, 0⟩ = 0
        unfold insCode
        rw [hcl]
        simp [UA, UB]
theorem las_next (t loc n : Nat) (lp : Bool) (i : Nat) (hi : i < lasL n lp) : nextL (lasC t loc n lp) i = [(i : Int) + 1] ∨ ∃ j : Nat, j ≤ i ∧ nextL (lasC t loc n lp) i = [(j : Int), (i : Int) + 1] ∧ stI j = stI (i + 1) := by
  have hlen := lasC_len t loc n lp
  by_cases h : i < 2 * n
  · left
    exact last_next t loc n i _ h
  · cases lp with
    | false => unfold lasL at hi; simp at hi; omega
    | true =>
      unfold lasL at hi hlen
      simp at hi hlen
      have hc : i = 2 * n + 0 ∨ i = 2 * n + 1 := by omega
      have g0 : (lasC t loc n true).getD (2 * n + 0) default = ⟨34, 0, 0, 0⟩ := lasC_hi t loc n 0 true
      have g1 : (lasC t loc n true).getD (2 * n + 1) default = ⟨23, 0, 0, 0⟩ := lasC_hi t loc n 1 true
      rcases hc with rfl | rfl
      · left
        exact nextL_on (by omega) (by rw [g0]; decide) (by rw [g0]; decide) (by rw [g0]; decide)
      · refine .inr ⟨0, by omega, ?_, by rw [stI_even (by omega), stI_even (by omega)]⟩
        unfold nextL
        rw [if_pos ⟨by omega, by omega⟩]
        simp only [Int.toNat_natCast, g1]
        rw [if_neg (by decide), if_neg (by decide), if_pos trivial, if_neg (by omega), if_pos (by omega)]
        rfl
theorem las_look (t loc n : Nat) (lp : Bool) (hl : loc < 3) : ∃ s, lookM (lasP t loc n lp) (lasM t loc n lp) = .ok s ∧ ∀ i, i ≤ lasL n lp → seenF s i = true := by
  have hlen : (lasM t loc n lp).code.length = lasL n lp + 1 := lasC_len t loc n lp
  have hev := lasL_even n lp
  let st : Nat → List UInt8 := fun i => if i ≤ lasL n lp then stI i else []
  have hst : ∀ i, i ≤ lasL n lp → st i = stI i := fun i hi => if_pos hi
  have hrow : RowB (lasP t loc n lp) (lasM t loc n lp) st (lasL n lp) := ⟨by omega, (hst 0 (by omega)).trans rfl, fun i hi => by
    rw [hst i (by omega), hst (i + 1) (by omega)]
    have h1 := las_ins t loc n lp hl i hi
    exact stI_beh _ _ _ i h1.1 h1.2.1, fun i hi => by
    rcases las_next t loc n lp i hi with h | ⟨j, h1, h2, h3⟩
    · exact .inl h
    · exact .inr ⟨j, h1, h2, by rw [hst j (by omega), hst (i + 1) (by omega)]; exact h3⟩⟩
  have he : ((lasM t loc n lp).code.getD (lasL n lp) default).op = 33 := by
    show ((lasC t loc n lp).getD (lasL n lp) default).op = 33
    rw [lasC_end]
  refine ⟨_, hrow.ret ?_ (nextL_ret (by omega) he), fun i hi => ?_⟩
  · rw [hst _ (Nat.le_refl _), stI_even hev, show st (lasL n lp + 1) = [] from if_neg (by omega)]
    exact beh_retI _ _ _ he (by show (⟨#[]⟩ : ByteArray).toList = []; decide +kernel)
  · unfold seenF strS
    show ((List.range (lasM t loc n lp).code.length).map fun j => decide (j ≤ lasL n lp)).getD i false = true
    rw [range_getD, if_pos (by omega), decide_eq_true hi]
theorem las_ok (t loc n : Nat) (lp : Bool) (hl : loc < 3) (hn : n ≤ 50) : (lasP t loc n lp).Ok := by
  have two : ∀ j, j < (lasP t loc n lp).ms.length → j = 0 ∨ j = 1 := by intro j hj; have : (lasP t loc n lp).ms.length = 2 := rfl; omega
  have hlen := lasC_len t loc n lp
  have hlL : lasL n lp ≤ 2 * n + 2 := by unfold lasL; split <;> omega
  refine ⟨by show 0 ≤ 12; omega, by show 1 ≤ 2; omega, by show 2 ≤ 12; omega, fun j hj => ?_, fun j hj => ?_, fun j hj q hq => ?_⟩
  · exact absurd hj (by show ¬ j < 0; omega)
  · rcases two j hj with rfl | rfl
    · show headCode 0 r8 = 0
      decide +kernel
    · show headCode 1 (lasM t loc n lp) = 0
      unfold headCode
      rw [if_neg (by
        show ¬ (12 < 0 ∨ (12 : Int) - ((0 : Nat) : Int) < ((3 : Nat) : Int) ∨ (lasC t loc n lp).length < 1 ∨ 120 < (lasC t loc n lp).length)
        omega), if_neg]
      rintro (h | h | h | ⟨h, _⟩)
      · exact h (show lettersB ⟨#[]⟩ = true by decide +kernel)
      · exact h (show lettersB ⟨#[73, 73, 73]⟩ = true by decide +kernel)
      · exact h (show retOk ⟨#[]⟩ by decide +kernel)
      · omega
  · rcases two j hj with rfl | rfl
    · obtain rfl : q = 0 := by have h : q < 1 := hq; omega
      show insCode [] 2 r8 ⟨33, 0, 0, 0⟩ = 0
      decide +kernel
    · show insCode [] 2 (lasM t loc n lp) ((lasC t loc n lp).getD q default) = 0
      have hq2 : q < (lasC t loc n lp).length := hq
      by_cases h : q < lasL n lp
      · exact (las_ins t loc n lp hl q h).2.2.1
      · obtain rfl : q = lasL n lp := by omega
        rw [lasC_end]
        simp [insCode, UA, UB]
theorem las_bd (t loc n : Nat) (lp : Bool) (hl : loc < 3) (q : Nat) (hq : q < (lasC t loc n lp).length) : ((lasC t loc n lp).getD q default).bd := by
  have hlen := lasC_len t loc n lp
  by_cases h : q < lasL n lp
  · exact (las_ins t loc n lp hl q h).2.2.2
  · obtain rfl : q = lasL n lp := by omega
    rw [lasC_end]
    exact bd_tiny (by decide)
theorem las_looks (t loc n : Nat) (lp : Bool) (hl : loc < 3) : ∀ j, j < (lasP t loc n lp).ms.length → ∃ s, lookM (lasP t loc n lp) ((lasP t loc n lp).ms.getD j default) = .ok s := by
  intro j hj
  have h : j = 0 ∨ j = 1 := by have : (lasP t loc n lp).ms.length = 2 := rfl; omega
  rcases h with rfl | rfl
  · have hr : (r8.code.getD 0 default).op = 33 := rfl
    obtain ⟨s, h1, _⟩ := pairs_look (lasP t loc n lp) r8 0 rfl (by show (⟨#[]⟩ : ByteArray).toList = []; decide +kernel) (fun i hi => by omega) (fun i hi => by omega) hr
    exact ⟨s, h1⟩
  · obtain ⟨s, h1, _⟩ := las_look t loc n lp hl
    exact ⟨s, h1⟩
/-- What the law wants. -/
def lasW (t n : Nat) (lp : Bool) (pc : Nat) : Bool := decide (pc ≤ 2 * t) || (lp && decide (pc < lasL n lp))
theorem las_live {t loc n : Nat} {lp : Bool} {s : Lk} (ht : t < n) (hs : ∀ i, i ≤ lasL n lp → seenF s i = true) (pc k : Nat) (hp : pc ≤ lasL n lp) : liveG (lasC t loc n lp) (seenF s) pc k = (lasW t n lp pc && decide (k = loc)) := by
  rw [Bool.eq_iff_iff, liveG_iff]
  cases lp with
  | false =>
    have h := last_row t n loc ht (fun i => seenF s i = true) hs pc k hp
    rw [show lasC t loc n false = lastP t (loc : Int) n ++ [(⟨33, 0, 0, 0⟩ : Ins)] from rfl, h]
    simp [lasW]
  | true =>
    have h := last_loop t n loc ht (fun i => seenF s i = true) hs pc k hp
    rw [show lasC t loc n true = lastP t (loc : Int) n ++ [(⟨34, 0, 0, 0⟩ : Ins), ⟨23, 0, 0, 0⟩, ⟨33, 0, 0, 0⟩] from rfl, h]
    unfold lasW lasL
    simp
    omega
theorem las_loc {t loc n : Nat} {lp : Bool} {s : Lk} (ht : t < n) (hl : loc < 3) (hs : ∀ i, i ≤ lasL n lp → seenF s i = true) (pc : Nat) (hp : pc ≤ lasL n lp) : locG (lasM t loc n lp) s (pc : Int) = if lasW t n lp pc then [(loc : Int)] else [] := by
  have hlen : (lasM t loc n lp).code.length = lasL n lp + 1 := lasC_len t loc n lp
  unfold locG
  rw [if_pos ⟨by omega, by omega⟩, Int.toNat_natCast]
  have e : (kindsL (lasM t loc n lp)).length = 3 := by rw [las_kinds]; rfl
  rw [e]
  have e2 : (List.range 3).filter (liveG (lasM t loc n lp).code (seenF s) pc) = (List.range 3).filter fun k => lasW t n lp pc && decide (k = loc) := List.filter_congr fun k _ => las_live ht hs pc k hp
  rw [e2]
  cases lasW t n lp pc with
  | false => simp [ints]
  | true =>
    have : loc = 0 ∨ loc = 1 ∨ loc = 2 := by omega
    rcases this with rfl | rfl | rfl <;> decide
theorem las_has {t loc n : Nat} {lp : Bool} {s : Lk} (ht : t < n) (hs : ∀ i, i ≤ lasL n lp → seenF s i = true) (pc : Nat) (hp : pc ≤ lasL n lp) : hasG (lasM t loc n lp) s (pc : Int) (loc : Int) = lasW t n lp pc := by
  have hlen : (lasM t loc n lp).code.length = lasL n lp + 1 := lasC_len t loc n lp
  unfold hasG
  rw [decide_eq_true ⟨by omega, by omega, by omega⟩, Int.toNat_natCast, Int.toNat_natCast, Bool.true_and]
  rw [show (lasM t loc n lp).code = lasC t loc n lp from rfl, las_live ht hs pc loc hp]
  simp
theorem las_past {t loc n : Nat} {lp : Bool} {s : Lk} : locG (lasM t loc n lp) s (-1) = [] ∧ locG (lasM t loc n lp) s ((lasL n lp + 1 : Nat) : Int) = [] := by
  have hlen : (lasM t loc n lp).code.length = lasL n lp + 1 := lasC_len t loc n lp
  unfold locG
  rw [if_neg (by omega), if_neg (by omega)]
  exact ⟨rfl, rfl⟩
end Go.Proofs.YtpmfbhoochogoaaGreatDoor
