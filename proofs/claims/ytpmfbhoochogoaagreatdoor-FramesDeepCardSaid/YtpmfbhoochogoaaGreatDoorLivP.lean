/- What is still asked for, plain: the least answer, what the laws need of it. What is still asked for, plain: LiveLast. What is still asked for, plain: LiveStored. What is still asked for, plain: as live.work works it out. -/
import Derived.Test.YtpmfbhoochogoaaGreatDoorVerL11
/-! What is still asked for, plain: the least answer, what the laws need of it. -/
namespace Go.Proofs.YtpmfbhoochogoaaGreatDoor

/-- A local is asked for ahead of a place (seen: the places that are reached). -/
inductive LiveR (xs : List Ins) (seen : Nat → Prop) : Nat → Nat → Prop
  | load (pc k : Nat) : seen pc → (xs.getD pc default).op = 3 → (xs.getD pc default).a = k → LiveR xs seen pc k
  | go (pc k : Nat) (q : Int) : seen pc → ¬ ((xs.getD pc default).op = 4 ∧ (xs.getD pc default).a = k) → q ∈ nextL xs pc → LiveR xs seen q.toNat k → LiveR xs seen pc k

theorem LiveR.at_seen {xs : List Ins} {seen : Nat → Prop} {pc k : Nat} (h : LiveR xs seen pc k) : seen pc := by
  cases h with
  | load _ _ h _ _ => exact h
  | go _ _ _ h _ _ _ => exact h
/-- One step of it. -/
theorem live_step {xs : List Ins} {seen : Nat → Prop} {pc k : Nat} (hs : seen pc) : LiveR xs seen pc k ↔ ((xs.getD pc default).op = 3 ∧ (xs.getD pc default).a = k) ∨ (¬ ((xs.getD pc default).op = 4 ∧ (xs.getD pc default).a = k) ∧ ∃ q ∈ nextL xs pc, LiveR xs seen q.toNat k) := by
  constructor
  · intro h
    cases h with
    | load _ _ _ h1 h2 => exact .inl ⟨h1, h2⟩
    | go _ _ q _ h1 h2 h3 => exact .inr ⟨h1, q, h2, h3⟩
  · rintro (⟨h1, h2⟩ | ⟨h1, q, h2, h3⟩)
    · exact .load pc k hs h1 h2
    · exact .go pc k q hs h1 h2 h3
theorem live_store {xs : List Ins} {seen : Nat → Prop} {pc k : Nat} (h4 : (xs.getD pc default).op = 4) (ha : (xs.getD pc default).a = k) : ¬ LiveR xs seen pc k := fun h => by
  rcases (live_step h.at_seen).1 h with ⟨h1, _⟩ | ⟨h1, _⟩
  · omega
  · exact h1 ⟨h4, ha⟩
/-- What is not asked for, and not stored, is not asked for where it goes on. -/
theorem live_dead {xs : List Ins} {seen : Nat → Prop} {pc k : Nat} (hs : seen pc) (h : ¬ LiveR xs seen pc k) (h4 : ¬ ((xs.getD pc default).op = 4 ∧ (xs.getD pc default).a = k)) (q : Int) (hq : q ∈ nextL xs pc) : ¬ LiveR xs seen q.toNat k :=
  fun h2 => h (.go pc k q hs h4 hq h2)
/-- Whatever says no more than it, and is closed, is it. -/
theorem live_is {xs : List Ins} {seen : Nat → Prop} {f : Nat → Nat → Prop} (hsound : ∀ pc k, f pc k → LiveR xs seen pc k)
    (hload : ∀ (pc k : Nat), seen pc → (xs.getD pc default).op = 3 → (xs.getD pc default).a = (k : Int) → f pc k)
    (hgo : ∀ (pc k : Nat) (q : Int), seen pc → ¬ ((xs.getD pc default).op = 4 ∧ (xs.getD pc default).a = (k : Int)) → q ∈ nextL xs pc → f q.toNat k → f pc k) (pc k : Nat) : f pc k ↔ LiveR xs seen pc k := by
  refine ⟨hsound pc k, fun h => ?_⟩
  induction h with
  | load pc k hs h1 h2 => exact hload pc k hs h1 h2
  | go pc k q hs h1 h2 _ ih => exact hgo pc k q hs h1 h2 ih
/-- On a straight row. -/
theorem live_on {xs : List Ins} {seen : Nat → Prop} {pc k : Nat} (hs : seen pc) (hn : nextL xs pc = [(pc : Int) + 1]) : LiveR xs seen pc k ↔ ((xs.getD pc default).op = 3 ∧ (xs.getD pc default).a = k) ∨ (¬ ((xs.getD pc default).op = 4 ∧ (xs.getD pc default).a = k) ∧ LiveR xs seen (pc + 1) k) := by
  rw [live_step hs, hn]
  simp only [List.mem_singleton, exists_eq_left]
  rw [show ((pc : Int) + 1).toNat = pc + 1 by omega]
theorem live_end {xs : List Ins} {seen : Nat → Prop} {pc k : Nat} (hn : nextL xs pc = []) (h3 : (xs.getD pc default).op ≠ 3) : ¬ LiveR xs seen pc k := fun h => by
  rcases (live_step h.at_seen).1 h with ⟨h1, _⟩ | ⟨_, q, h1, _⟩
  · exact h3 h1
  · rw [hn] at h1; cases h1

/-- A local is asked for ahead of a place of a straight row just if it is loaded from there on, ahead of any store. -/
theorem live_row {xs : List Ins} {seen : Nat → Prop} {L : Nat} (hs : ∀ i, i ≤ L → seen i) (hn : ∀ i : Nat, i < L → nextL xs i = [(i : Int) + 1]) (he : nextL xs L = []) (h3 : (xs.getD L default).op ≠ 3) (k : Nat) :
    ∀ d pc, pc + d = L → (LiveR xs seen pc k ↔ ∃ j, pc ≤ j ∧ j < L ∧ ((xs.getD j default).op = 3 ∧ (xs.getD j default).a = k) ∧ ∀ i, pc ≤ i → i < j → ¬ ((xs.getD i default).op = 4 ∧ (xs.getD i default).a = k))
  | 0, pc, h => by
    obtain rfl : pc = L := h
    exact ⟨fun h1 => absurd h1 (live_end he h3), fun ⟨j, h1, h2, _⟩ => by omega⟩
  | d + 1, pc, h => by
    rw [live_on (hs pc (by omega)) (hn pc (by omega)), live_row hs hn he h3 k d (pc + 1) (by omega)]
    constructor
    · rintro (h1 | ⟨h1, j, h2, h4, h5, h6⟩)
      · exact ⟨pc, Nat.le_refl _, by omega, h1, fun i h2 h4 => by omega⟩
      · refine ⟨j, by omega, h4, h5, fun i h7 h8 => ?_⟩
        rcases Nat.lt_or_ge pc i with h9 | h9
        · exact h6 i h9 h8
        · obtain rfl : i = pc := by omega
          exact h1
    · rintro ⟨j, h1, h2, h4, h5⟩
      rcases Nat.lt_or_ge pc j with h6 | h6
      · exact .inr ⟨h5 pc (Nat.le_refl _) h6, j, h6, h2, h4, fun i h7 h8 => h5 i (by omega) h8⟩
      · obtain rfl : j = pc := by omega
        exact .inl h4

end Go.Proofs.YtpmfbhoochogoaaGreatDoor

/-! What is still asked for, plain: LiveLast. -/
namespace Go.Proofs.YtpmfbhoochogoaaGreatDoor

/-- So many pairs, of which one loads. -/
def lastP (t : Nat) (loc : Int) : Nat → List Ins
  | 0 => []
  | n + 1 => lastP t loc n ++ [if n = t then ⟨3, loc, 0, 0⟩ else ⟨1, 0, 0, 7⟩, ⟨35, 0, 0, 0⟩]
theorem lastP_len (t : Nat) (loc : Int) : ∀ n, (lastP t loc n).length = 2 * n
  | 0 => rfl
  | n + 1 => by
    show (lastP t loc n ++ [_, _]).length = _
    rw [List.length_append, lastP_len t loc n]
    show 2 * n + 2 = _
    omega
def lastI (t : Nat) (loc : Int) (i : Nat) : Ins := if i % 2 = 1 then ⟨35, 0, 0, 0⟩ else if i = 2 * t then ⟨3, loc, 0, 0⟩ else ⟨1, 0, 0, 7⟩
theorem lastP_get (t : Nat) (loc : Int) : ∀ (n i : Nat) (r : List Ins), i < 2 * n → (lastP t loc n ++ r).getD i default = lastI t loc i
  | 0, i, _, h => by omega
  | n + 1, i, r, h => by
    show ((lastP t loc n ++ [_, _]) ++ r).getD i default = _
    rw [List.append_assoc]
    rcases Nat.lt_or_ge i (2 * n) with h1 | h1
    · exact lastP_get t loc n i _ h1
    · rw [List.getD_eq_getElem?_getD, List.getElem?_append_right (by rw [lastP_len]; exact h1), lastP_len]
      have h2 : i = 2 * n ∨ i = 2 * n + 1 := by omega
      rcases h2 with rfl | rfl
      · rw [show 2 * n - 2 * n = 0 by omega]
        show (if n = t then (⟨3, loc, 0, 0⟩ : Ins) else ⟨1, 0, 0, 7⟩) = lastI t loc (2 * n)
        unfold lastI
        by_cases h3 : n = t
        · rw [if_pos h3, if_neg (show ¬ 2 * n % 2 = 1 by omega), if_pos (show 2 * n = 2 * t by omega)]
        · rw [if_neg h3, if_neg (show ¬ 2 * n % 2 = 1 by omega), if_neg (show ¬ 2 * n = 2 * t by omega)]
      · rw [show 2 * n + 1 - 2 * n = 1 by omega]
        show (⟨35, 0, 0, 0⟩ : Ins) = _
        unfold lastI
        rw [if_pos (by omega)]
theorem lastI_op (t : Nat) (loc : Int) (i : Nat) : (lastI t loc i).op = 35 ∨ (lastI t loc i).op = 3 ∨ (lastI t loc i).op = 1 := by
  unfold lastI
  split
  · exact .inl rfl
  · split
    · exact .inr (.inl rfl)
    · exact .inr (.inr rfl)
theorem lastI_load (t : Nat) (loc : Int) (i : Nat) (k : Int) : ((lastI t loc i).op = 3 ∧ (lastI t loc i).a = k) ↔ i = 2 * t ∧ loc = k := by
  unfold lastI
  constructor
  · rintro ⟨h1, h2⟩
    split at h1
    · cases h1
    · split at h1
      · rename_i h3 h4
        rw [if_neg h3, if_pos h4] at h2
        exact ⟨h4, h2⟩
      · cases h1
  · rintro ⟨h1, h2⟩
    rw [if_neg (by omega), if_pos h1]
    exact ⟨rfl, h2⟩
theorem last_next (t : Nat) (loc : Int) (n i : Nat) (r : List Ins) (h : i < 2 * n) : nextL (lastP t loc n ++ r) i = [(i : Int) + 1] := by
  have h1 := lastP_get t loc n i r h
  have h2 := lastI_op t loc i
  exact nextL_on (by rw [List.length_append, lastP_len]; omega) (by rw [h1]; omega) (by rw [h1]; omega) (by rw [h1]; omega)
theorem last_at (t : Nat) (loc : Int) (n i : Nat) (r : List Ins) : (lastP t loc n ++ r).getD (2 * n + i) default = r.getD i default := by
  rw [List.getD_eq_getElem?_getD, List.getElem?_append_right (by rw [lastP_len]; omega), lastP_len, List.getD_eq_getElem?_getD, show 2 * n + i - 2 * n = i by omega]

/-- Without the loop. -/
theorem last_row (t n loc : Nat) (ht : t < n) (seen : Nat → Prop) (hs : ∀ i, i ≤ 2 * n → seen i) (pc k : Nat) (hp : pc ≤ 2 * n) :
    LiveR (lastP t loc n ++ [⟨33, 0, 0, 0⟩]) seen pc k ↔ pc ≤ 2 * t ∧ k = loc := by
  have h0 : (lastP t (loc : Int) n ++ [(⟨33, 0, 0, 0⟩ : Ins)]).getD (2 * n) default = ⟨33, 0, 0, 0⟩ := last_at t loc n 0 _
  have he : nextL (lastP t (loc : Int) n ++ [(⟨33, 0, 0, 0⟩ : Ins)]) (2 * n : Nat) = [] := nextL_ret (by rw [List.length_append, lastP_len]; simp) (by rw [h0])
  rw [live_row hs (fun i hi => last_next t loc n i _ hi) he (by rw [h0]; decide) k (2 * n - pc) pc (by omega)]
  constructor
  · rintro ⟨j, h1, h2, h3, _⟩
    rw [lastP_get t loc n j _ h2, lastI_load] at h3
    exact ⟨by omega, by omega⟩
  · rintro ⟨h1, rfl⟩
    refine ⟨2 * t, h1, by omega, ?_, fun i h2 h3 h4 => ?_⟩
    · rw [lastP_get t k n _ _ (by omega), lastI_load]
      exact ⟨rfl, rfl⟩
    · rw [lastP_get t k n _ _ (by omega)] at h4
      have := lastI_op t k i
      omega

/-- With the loop. -/
theorem last_loop (t n loc : Nat) (ht : t < n) (seen : Nat → Prop) (hs : ∀ i, i ≤ 2 * n + 2 → seen i) (pc k : Nat) (hp : pc ≤ 2 * n + 2) :
    LiveR (lastP t loc n ++ [⟨34, 0, 0, 0⟩, ⟨23, 0, 0, 0⟩, ⟨33, 0, 0, 0⟩]) seen pc k ↔ pc < 2 * n + 2 ∧ k = loc := by
  generalize hx : lastP t (loc : Int) n ++ [(⟨34, 0, 0, 0⟩ : Ins), ⟨23, 0, 0, 0⟩, ⟨33, 0, 0, 0⟩] = xs
  have hl : xs.length = 2 * n + 3 := by rw [← hx, List.length_append, lastP_len]; rfl
  have hg : ∀ i, i < 2 * n → xs.getD i default = lastI t loc i := fun i hi => by rw [← hx]; exact lastP_get t loc n i _ hi
  have h0 : xs.getD (2 * n) default = ⟨34, 0, 0, 0⟩ := by rw [← hx]; exact last_at t loc n 0 _
  have h1 : xs.getD (2 * n + 1) default = ⟨23, 0, 0, 0⟩ := by rw [← hx]; exact last_at t loc n 1 _
  have h2 : xs.getD (2 * n + 2) default = ⟨33, 0, 0, 0⟩ := by rw [← hx]; exact last_at t loc n 2 _
  have hn : ∀ i : Nat, i < 2 * n + 1 → nextL xs i = [(i : Int) + 1] := fun i hi => by
    rcases Nat.lt_or_ge i (2 * n) with h | h
    · rw [← hx]; exact last_next t loc n i _ h
    · obtain rfl : i = 2 * n := by omega
      exact nextL_on (by omega) (by rw [h0]; decide) (by rw [h0]; decide) (by rw [h0]; decide)
  have hz : nextL xs ((2 * n + 1 : Nat) : Int) = [0, ((2 * n + 2 : Nat) : Int)] := by
    unfold nextL
    rw [if_pos ⟨by omega, by omega⟩]
    simp only [Int.toNat_natCast, h1]
    rw [if_neg (by decide), if_neg (by decide), if_pos trivial, if_neg (by omega), if_pos (by omega)]
    rw [show ((2 * n + 1 : Nat) : Int) + 1 = ((2 * n + 2 : Nat) : Int) by omega]
  have he : nextL xs ((2 * n + 2 : Nat) : Int) = [] := nextL_ret (by omega) (by rw [h2])
  have hop : ∀ i, i < 2 * n + 2 → (xs.getD i default).op ≠ 4 := fun i hi => by
    rcases Nat.lt_or_ge i (2 * n) with h | h
    · rw [hg i h]
      have := lastI_op t loc i
      omega
    · have h5 : i = 2 * n ∨ i = 2 * n + 1 := by omega
      rcases h5 with rfl | rfl
      · rw [h0]; decide
      · rw [h1]; decide
  constructor
  · intro h
    induction h with
    | load pc k _ h3 h4 =>
      rcases Nat.lt_or_ge pc (2 * n) with h | h
      · have h5 := (lastI_load t loc pc k).1 ⟨by rw [← hg pc h]; exact h3, by rw [← hg pc h]; exact h4⟩
        exact ⟨by omega, by omega⟩
      · have h5 : pc = 2 * n ∨ pc = 2 * n + 1 ∨ pc = 2 * n + 2 := by omega
        rcases h5 with rfl | rfl | rfl
        · rw [h0] at h3; cases h3
        · rw [h1] at h3; cases h3
        · rw [h2] at h3; cases h3
    | go pc k q _ _ hq _ ih =>
      rcases Nat.lt_or_ge pc (2 * n + 2) with h | h
      · refine ⟨h, ?_⟩
        rcases Nat.lt_or_ge pc (2 * n + 1) with h6 | h6
        · rw [hn pc h6, List.mem_singleton] at hq
          exact (ih (by omega)).2
        · obtain rfl : pc = 2 * n + 1 := by omega
          rw [hz] at hq
          simp at hq
          exact (ih (by omega)).2
      · obtain rfl : pc = 2 * n + 2 := by omega
        rw [he] at hq; cases hq
  · rintro ⟨h, rfl⟩
    have low : ∀ d i, i + d = 2 * t → LiveR xs seen i k := by
      intro d
      induction d with
      | zero =>
        intro i hi
        obtain rfl : i = 2 * t := hi
        have h5 := (lastI_load t k (2 * t) k).2 ⟨rfl, rfl⟩
        rw [← hg _ (by omega)] at h5
        exact .load _ k (hs _ (by omega)) h5.1 h5.2
      | succ d ih =>
        intro i hi
        refine .go i k ((i : Int) + 1) (hs _ (by omega)) (fun h5 => hop i (by omega) h5.1) (by rw [hn i (by omega)]; simp) ?_
        rw [show ((i : Int) + 1).toNat = i + 1 by omega]
        exact ih (i + 1) (by omega)
    have hi : ∀ d i, i + d = 2 * n + 1 → LiveR xs seen i k := by
      intro d
      induction d with
      | zero =>
        intro i hi
        obtain rfl : i = 2 * n + 1 := hi
        exact .go _ k 0 (hs _ (by omega)) (fun h5 => hop _ (by omega) h5.1) (by rw [hz]; simp) (low (2 * t) 0 (by omega))
      | succ d ih =>
        intro i hi
        refine .go i k ((i : Int) + 1) (hs _ (by omega)) (fun h5 => hop i (by omega) h5.1) (by rw [hn i (by omega)]; simp) ?_
        rw [show ((i : Int) + 1).toNat = i + 1 by omega]
        exact ih (i + 1) (by omega)
    exact hi (2 * n + 1 - pc) pc (by omega)

end Go.Proofs.YtpmfbhoochogoaaGreatDoor

/-! What is still asked for, plain: LiveStored. -/
namespace Go.Proofs.YtpmfbhoochogoaaGreatDoor

/-- It is loaded ahead of any store. -/
def AskX (xs : List Ins) (k : Nat) : Prop := ∃ j, j < xs.length ∧ ((xs.getD j default).op = 3 ∧ (xs.getD j default).a = k) ∧ ∀ i, i < j → ¬ ((xs.getD i default).op = 4 ∧ (xs.getD i default).a = k)
theorem ask_cons (x : Ins) (xs : List Ins) (k : Nat) : AskX (x :: xs) k ↔ (x.op = 3 ∧ x.a = k) ∨ (¬ (x.op = 4 ∧ x.a = k) ∧ AskX xs k) := by
  constructor
  · rintro ⟨j, h1, h2, h3⟩
    cases j with
    | zero => exact .inl h2
    | succ j => exact .inr ⟨h3 0 (by omega), j, by simpa using h1, h2, fun i hi => h3 (i + 1) (by omega)⟩
  · rintro (h | ⟨h1, j, h2, h3, h4⟩)
    · exact ⟨0, by simp, h, fun i hi => by omega⟩
    · refine ⟨j + 1, by simpa using h2, h3, fun i hi => ?_⟩
      cases i with
      | zero => exact h1
      | succ i => exact h4 i (by omega)
theorem ask_nil (k : Nat) : ¬ AskX [] k := fun ⟨_, h, _⟩ => by cases h

/-- The law's code: a store, or a load, of each. -/
def useC : List (Nat × Bool) → List Ins
  | [] => [⟨33, 0, 0, 0⟩]
  | (k, true) :: r => ⟨1, 0, 0, 1⟩ :: ⟨4, k, 0, 0⟩ :: useC r
  | (k, false) :: r => ⟨3, k, 0, 0⟩ :: ⟨35, 0, 0, 0⟩ :: useC r
/-- Its first use is a load. -/
def askU (k : Nat) : List (Nat × Bool) → Bool
  | [] => false
  | (q, s) :: r => if q = k then !s else askU k r
theorem useC_ask (k : Nat) : ∀ us, AskX (useC us) k ↔ askU k us = true
  | [] => by
    show AskX [_] k ↔ false = true
    rw [ask_cons]
    constructor
    · rintro (⟨h, _⟩ | ⟨_, h⟩)
      · cases h
      · exact absurd h (ask_nil k)
    · intro h; cases h
  | (q, true) :: r => by
    show AskX (_ :: _ :: useC r) k ↔ (if q = k then !true else askU k r) = true
    rw [ask_cons, ask_cons, useC_ask k r]
    by_cases h : q = k
    · subst h
      simp
    · rw [if_neg h]
      have : ((q : Int) = (k : Int)) = False := eq_false (by omega)
      simp [this]
  | (q, false) :: r => by
    show AskX (_ :: _ :: useC r) k ↔ (if q = k then !false else askU k r) = true
    rw [ask_cons, ask_cons, useC_ask k r]
    by_cases h : q = k
    · subst h
      simp
    · rw [if_neg h]
      have : ((q : Int) = (k : Int)) = False := eq_false (by omega)
      simp [this]
theorem useC_len : ∀ us : List (Nat × Bool), (useC us).length = 2 * us.length + 1
  | [] => rfl
  | (_, true) :: r => by
    show (useC r).length + 1 + 1 = 2 * (r.length + 1) + 1
    rw [useC_len r]; omega
  | (_, false) :: r => by
    show (useC r).length + 1 + 1 = 2 * (r.length + 1) + 1
    rw [useC_len r]; omega
theorem useC_op : ∀ (us : List (Nat × Bool)) (i : Nat), i < 2 * us.length → ((useC us).getD i default).op = 1 ∨ ((useC us).getD i default).op = 4 ∨ ((useC us).getD i default).op = 3 ∨ ((useC us).getD i default).op = 35
  | [], i, h => by simp at h
  | (_, true) :: r, 0, _ => .inl rfl
  | (_, true) :: r, 1, _ => .inr (.inl rfl)
  | (_, false) :: r, 0, _ => .inr (.inr (.inl rfl))
  | (_, false) :: r, 1, _ => .inr (.inr (.inr rfl))
  | (_, true) :: r, i + 2, h => useC_op r i (by simp at h; omega)
  | (_, false) :: r, i + 2, h => useC_op r i (by simp at h; omega)
theorem useC_ret : ∀ us : List (Nat × Bool), (useC us).getD (2 * us.length) default = ⟨33, 0, 0, 0⟩
  | [] => rfl
  | (_, true) :: r => useC_ret r
  | (_, false) :: r => useC_ret r
/-- What is asked for at the beginning. -/
theorem stored_live (us : List (Nat × Bool)) (seen : Nat → Prop) (hs : ∀ i, i ≤ 2 * us.length → seen i) (k : Nat) : LiveR (useC us) seen 0 k ↔ askU k us = true := by
  have hl := useC_len us
  have hn : ∀ i : Nat, i < 2 * us.length → nextL (useC us) i = [(i : Int) + 1] := fun i hi => by
    have := useC_op us i hi
    exact nextL_on (by omega) (by omega) (by omega) (by omega)
  have he : nextL (useC us) (2 * us.length : Nat) = [] := nextL_ret (by omega) (by rw [useC_ret])
  rw [live_row hs hn he (by rw [useC_ret]; decide) k (2 * us.length) 0 (by omega), ← useC_ask k us]
  constructor
  · rintro ⟨j, _, h2, h3, h4⟩
    exact ⟨j, by omega, h3, fun i hi => h4 i (by omega) hi⟩
  · rintro ⟨j, h2, h3, h4⟩
    refine ⟨j, by omega, ?_, h3, fun i _ hi => h4 i hi⟩
    rcases Nat.lt_or_ge j (2 * us.length) with h | h
    · exact h
    · obtain rfl : j = 2 * us.length := by omega
      rw [useC_ret] at h3
      cases h3.1

end Go.Proofs.YtpmfbhoochogoaaGreatDoor

/-! What is still asked for, plain: as live.work works it out. -/
/-! What is still asked for, plain: as live.work works it out. -/
namespace Go.Proofs.YtpmfbhoochogoaaGreatDoor

section
variable (xs : List Ins) (seen : Nat → Bool)
/-- Behind a place. -/
def behF (F : Nat → Nat → Bool) (pc k : Nat) : Bool := (nextL xs pc).any fun q => decide (q < xs.length) && (seen q.toNat && F q.toNat k)
/-- Ahead of it. -/
def ahF (nk : Nat) (F : Nat → Nat → Bool) (pc k : Nat) : Bool :=
  (behF xs seen F pc k && !(decide ((xs.getD pc default).op = 4) && decide ((xs.getD pc default).a = (k : Int)))) || (decide ((xs.getD pc default).op = 3) && (decide (k < nk) && decide ((xs.getD pc default).a = (k : Int))))
def putF (F : Nat → Nat → Bool) (pc : Nat) (f : Nat → Bool) : Nat → Nat → Bool := fun i k => if i = pc then f k else F i k
/-- What is said is true. -/
def SoundF (F : Nat → Nat → Bool) : Prop := ∀ pc k, F pc k = true → LiveR xs (fun i => seen i = true) pc k
end

theorem beh_sound {xs : List Ins} {seen : Nat → Bool} {F : Nat → Nat → Bool} (hF : SoundF xs seen F) {pc k : Nat} (h : behF xs seen F pc k = true) : ∃ q ∈ nextL xs pc, LiveR xs (fun i => seen i = true) q.toNat k := by
  unfold behF at h
  rw [List.any_eq_true] at h
  obtain ⟨q, hq, h1⟩ := h
  simp only [Bool.and_eq_true, decide_eq_true_eq] at h1
  exact ⟨q, hq, hF _ _ h1.2.2⟩
theorem ah_sound {xs : List Ins} {seen : Nat → Bool} {nk : Nat} {F : Nat → Nat → Bool} (hF : SoundF xs seen F) {pc k : Nat} (hs : seen pc = true) (h : ahF xs seen nk F pc k = true) : LiveR xs (fun i => seen i = true) pc k := by
  unfold ahF at h
  simp only [Bool.or_eq_true, Bool.and_eq_true, Bool.not_eq_true', decide_eq_true_eq, Bool.and_eq_false_iff, decide_eq_false_iff_not] at h
  rcases h with ⟨h1, h2⟩ | ⟨h1, _, h2⟩
  · obtain ⟨q, hq, hl⟩ := beh_sound hF h1
    exact .go pc k q hs (by omega) hq hl
  · exact .load pc k hs h1 h2
theorem put_sound {xs : List Ins} {seen : Nat → Bool} {nk : Nat} {F : Nat → Nat → Bool} (hF : SoundF xs seen F) {pc : Nat} (hs : seen pc = true) {f : Nat → Bool} (hf : ∀ k, f k = (F pc k || ahF xs seen nk F pc k)) : SoundF xs seen (putF F pc f) := by
  intro i k h
  unfold putF at h
  split at h
  · rename_i e
    subst e
    rw [hf, Bool.or_eq_true] at h
    rcases h with h | h
    · exact hF _ _ h
    · exact ah_sound hF hs h
  · exact hF _ _ h
/-- What is closed, too, is all that is asked for. -/
theorem closed_is {xs : List Ins} {seen : Nat → Bool} {nk : Nat} {F : Nat → Nat → Bool} (hF : SoundF xs seen F) (hc : ∀ pc, seen pc = true → ∀ k, ahF xs seen nk F pc k = true → F pc k = true)
    (hload : ∀ pc, seen pc = true → (xs.getD pc default).op = 3 → (xs.getD pc default).a < nk) (hseen : ∀ i, seen i = true → i < xs.length) (hnext : ∀ pc, seen pc = true → ∀ q ∈ nextL xs pc, 0 ≤ q) (pc k : Nat) : F pc k = true ↔ LiveR xs (fun i => seen i = true) pc k := by
  refine live_is hF ?_ ?_ pc k
  · intro pc k hs h1 h2
    refine hc pc hs k ?_
    have := hload pc hs h1
    unfold ahF
    rw [decide_eq_true h1, decide_eq_true h2, decide_eq_true (by omega : k < nk)]
    simp
  · intro pc k q hs h1 hq hf
    refine hc pc hs k ?_
    have h2 := hseen _ (hF _ _ hf).at_seen
    have h0 := hnext pc hs q hq
    have hb : behF xs seen F pc k = true := by
      unfold behF
      rw [List.any_eq_true]
      exact ⟨q, hq, by rw [(hF _ _ hf).at_seen, hf, decide_eq_true (by omega : q < xs.length)]; rfl⟩
    unfold ahF
    rw [hb]
    have h3 : (decide ((xs.getD pc default).op = 4) && decide ((xs.getD pc default).a = (k : Int))) = false := by
      rw [Bool.and_eq_false_iff, decide_eq_false_iff_not, decide_eq_false_iff_not]
      omega
    rw [h3]
    simp

/-- How many are not said yet. -/
def cntF (n nk : Nat) (F : Nat → Nat → Bool) : Nat := (List.range (n * nk)).countP fun j => !F (j / nk) (j % nk)
theorem countP_lt {α : Type} (p q : α → Bool) : ∀ (l : List α) (x : α), (∀ y ∈ l, p y = true → q y = true) → x ∈ l → q x = true → p x = false → l.countP p < l.countP q
  | [], x, _, h, _, _ => by cases h
  | y :: l, x, h, hx, hq, hp => by
    have hm : l.countP p ≤ l.countP q := List.countP_mono_left (fun z hz => h z (List.mem_cons_of_mem _ hz))
    rw [List.countP_cons, List.countP_cons]
    rcases List.mem_cons.1 hx with rfl | hx
    · rw [if_pos hq, if_neg (by rw [hp]; decide)]
      omega
    · have ih := countP_lt p q l x (fun z hz => h z (List.mem_cons_of_mem _ hz)) hx hq hp
      by_cases hy : p y = true
      · rw [if_pos hy, if_pos (h y (by simp) hy)]
        omega
      · rw [if_neg hy]
        omega
theorem cntF_congr {n nk : Nat} {F G : Nat → Nat → Bool} (h : ∀ i k, i < n → k < nk → F i k = G i k) : cntF n nk F = cntF n nk G := by
  unfold cntF
  refine List.countP_congr fun j hj => ?_
  rw [List.mem_range] at hj
  have hk : 0 < nk := by
    rcases Nat.eq_zero_or_pos nk with e | e
    · rw [e] at hj; simp at hj
    · exact e
  have h1 : j / nk < n := Nat.div_lt_of_lt_mul (by rw [Nat.mul_comm]; exact hj)
  rw [h _ _ h1 (Nat.mod_lt _ hk)]
theorem cntF_le {n nk : Nat} {F G : Nat → Nat → Bool} (h : ∀ i k, F i k = true → G i k = true) : cntF n nk G ≤ cntF n nk F := by
  unfold cntF
  refine List.countP_mono_left fun j _ hj => ?_
  simp only [Bool.not_eq_true'] at hj ⊢
  cases hF : F (j / nk) (j % nk) with
  | false => rfl
  | true => rw [h _ _ hF] at hj; cases hj
theorem cntF_lt {n nk : Nat} {F G : Nat → Nat → Bool} (h : ∀ i k, F i k = true → G i k = true) {i k : Nat} (hi : i < n) (hk : k < nk) (h1 : G i k = true) (h2 : F i k = false) : cntF n nk G < cntF n nk F := by
  unfold cntF
  refine countP_lt _ _ _ (i * nk + k) (fun j _ hj => ?_) ?_ ?_ ?_
  · simp only [Bool.not_eq_true'] at hj ⊢
    cases hF : F (j / nk) (j % nk) with
    | false => rfl
    | true => rw [h _ _ hF] at hj; cases hj
  · rw [List.mem_range]
    have : (i + 1) * nk ≤ n * nk := Nat.mul_le_mul_right _ hi
    rw [Nat.add_mul] at this
    omega
  · have e1 : (i * nk + k) / nk = i := by
      rw [Nat.mul_comm, Nat.mul_add_div (by omega), Nat.div_eq_of_lt hk]; omega
    have e2 : (i * nk + k) % nk = k := by
      rw [Nat.mul_comm, Nat.mul_add_mod, Nat.mod_eq_of_lt hk]
    rw [e1, e2, h2]
    rfl
  · have e1 : (i * nk + k) / nk = i := by
      rw [Nat.mul_comm, Nat.mul_add_div (by omega), Nat.div_eq_of_lt hk]; omega
    have e2 : (i * nk + k) % nk = k := by
      rw [Nat.mul_comm, Nat.mul_add_mod, Nat.mod_eq_of_lt hk]
    rw [e1, e2, h1]
    rfl
end Go.Proofs.YtpmfbhoochogoaaGreatDoor
