/- LiveStored, plain: the law's program is verified; what is live at its beginning and its end. -/
import Derived.Test.YtpmfbhoochogoaaGreatDoorFirst8
/-! LiveStored, plain. -/
namespace Go.Proofs.YtpmfbhoochogoaaGreatDoor
open Go.RowKit

/-- Lays an integer on; takes one off. -/
def PushI (m : Meth) (x : Ins) : Prop := x.op = 1 ∨ x.op = 34 ∨ (x.op = 3 ∧ atB (kindsL m) x.a = [lI])
def PullI (m : Meth) (x : Ins) : Prop := x.op = 35 ∨ x.op = 23 ∨ (x.op = 4 ∧ atB (kindsL m) x.a = [lI])
theorem beh_pushI (p : Prg) (m : Meth) (x : Ins) (h : PushI m x) : behL p m x [] = .ok [lI] := by
  have he : effL p m x = some ([], [lI]) := by
    rcases h with h | h | ⟨h, h2⟩
    · exact eff_const p m x h
    · unfold effL; simp [h]
    · unfold effL; simp [h, h2]
  exact behL_of (u := []) (by rcases h with h | h | ⟨h, _⟩ <;> omega) (by rcases h with h | h | ⟨h, _⟩ <;> omega) (by rcases h with h | h | ⟨h, _⟩ <;> omega) he (by decide) (.inl (by rcases h with h | h | ⟨h, _⟩ <;> omega))
theorem beh_pullI (p : Prg) (m : Meth) (x : Ins) (h : PullI m x) : behL p m x [lI] = .ok [] := by
  have he : effL p m x = some ([lI], []) := by
    rcases h with h | h | ⟨h, h2⟩
    · exact eff_out p m x h
    · unfold effL; simp [h]
    · unfold effL; simp [h, h2]
  exact behL_of (u := []) (by rcases h with h | h | ⟨h, _⟩ <;> omega) (by rcases h with h | h | ⟨h, _⟩ <;> omega) (by rcases h with h | h | ⟨h, _⟩ <;> omega) he (by decide) (.inr rfl)
def stI (i : Nat) : List UInt8 := if i % 2 = 0 then [] else [lI]
theorem stI_even {i : Nat} (h : i % 2 = 0) : stI i = [] := if_pos h
theorem stI_odd {i : Nat} (h : ¬ i % 2 = 0) : stI i = [lI] := if_neg h
theorem stI_beh (p : Prg) (m : Meth) (x : Ins) (i : Nat) (h1 : i % 2 = 0 → PushI m x) (h2 : i % 2 ≠ 0 → PullI m x) : behL p m x (stI i) = .ok (stI (i + 1)) := by
  by_cases h : i % 2 = 0
  · rw [stI_even h, stI_odd (by omega)]
    exact beh_pushI p m x (h1 h)
  · rw [stI_odd h, stI_even (by omega)]
    exact beh_pullI p m x (h2 h)
theorem beh_retI (p : Prg) (m : Meth) (x : Ins) (h : x.op = 33) (hr : m.ret.toList = []) : behL p m x [] = .ok [] := by
  have he : effL p m x = some ([], []) := by rw [eff_ret p m x h, hr]
  exact behL_of (u := []) (by omega) (by omega) (by omega) he (by decide) (.inr rfl)
/-- A row of pairs, and Ret. -/
theorem pairs_look (p : Prg) (m : Meth) (n : Nat) (hl : m.code.length = 2 * n + 1) (hr : m.ret.toList = []) (h : ∀ i, i < 2 * n → (i % 2 = 0 → PushI m (m.code.getD i default)) ∧ (i % 2 ≠ 0 → PullI m (m.code.getD i default)))
    (hj : ∀ i, i < 2 * n → (m.code.getD i default).op ≠ 23) (he : (m.code.getD (2 * n) default).op = 33) :
    ∃ s, lookM p m = .ok s ∧ ∀ i, i ≤ 2 * n → seenF s i = true := by
  have hn : ∀ i : Nat, i < 2 * n → nextL m.code i = [(i : Int) + 1] := fun i hi => by
    have h1 := h i hi
    refine nextL_on (by omega) ?_ ?_ (hj i hi)
    · by_cases e : i % 2 = 0
      · rcases h1.1 e with h2 | h2 | ⟨h2, _⟩ <;> omega
      · rcases h1.2 e with h2 | h2 | ⟨h2, _⟩ <;> omega
    · by_cases e : i % 2 = 0
      · rcases h1.1 e with h2 | h2 | ⟨h2, _⟩ <;> omega
      · rcases h1.2 e with h2 | h2 | ⟨h2, _⟩ <;> omega
  let st : Nat → List UInt8 := fun i => if i ≤ 2 * n then stI i else []
  have hst : ∀ i, i ≤ 2 * n → st i = stI i := fun i hi => if_pos hi
  have hrow : Row p m st (2 * n) := ⟨by omega, rfl, fun i hi => by
    rw [hst i (by omega), hst (i + 1) (by omega)]
    exact stI_beh p m _ i (h i hi).1 (h i hi).2, hn⟩
  refine ⟨_, hrow.ret ?_ (nextL_ret (by omega) he), fun i hi => ?_⟩
  · rw [hst _ (Nat.le_refl _), stI_even (by omega), show st (2 * n + 1) = [] from if_neg (by omega)]
    exact beh_retI p m _ he hr
  · unfold seenF strS
    show ((List.range m.code.length).map fun j => decide (j ≤ 2 * n)).getD i false = true
    rw [range_getD, if_pos (by omega), decide_eq_true hi]

/-- The law's method. -/
def stoM (us : List (Nat × Bool)) : Meth := ⟨⟨#[73, 73, 73, 73]⟩, ⟨#[]⟩, ⟨#[]⟩, useC us⟩
def stoP (us : List (Nat × Bool)) : Prg := ⟨[], [r8, stoM us]⟩
theorem sto_kinds (us : List (Nat × Bool)) : kindsL (stoM us) = [lI, lI, lI, lI] := by
  show (⟨#[73, 73, 73, 73]⟩ : ByteArray).toList ++ (⟨#[]⟩ : ByteArray).toList = _
  decide +kernel
theorem sto_at {k : Nat} (h : k < 4) (us : List (Nat × Bool)) : atB (kindsL (stoM us)) (k : Int) = [lI] := by
  rw [sto_kinds]
  have : k = 0 ∨ k = 1 ∨ k = 2 ∨ k = 3 := by omega
  rcases this with rfl | rfl | rfl | rfl <;> decide
/-- What stands where. -/
theorem useC_at : ∀ (us : List (Nat × Bool)) (i : Nat), i < 2 * us.length → (∀ u ∈ us, u.1 < 4) → ∃ k : Nat, k < 4 ∧ ((useC us).getD i default = if i % 2 = 0 then (if (us.getD (i / 2) default).2 then ⟨1, 0, 0, 1⟩ else ⟨3, (k : Int), 0, 0⟩) else (if (us.getD (i / 2) default).2 then ⟨4, (k : Int), 0, 0⟩ else ⟨35, 0, 0, 0⟩))
  | [], i, h, _ => by simp at h
  | (k, true) :: r, 0, _, hu => ⟨k, hu (k, true) (by simp), rfl⟩
  | (k, true) :: r, 1, _, hu => ⟨k, hu (k, true) (by simp), rfl⟩
  | (k, false) :: r, 0, _, hu => ⟨k, hu (k, false) (by simp), rfl⟩
  | (k, false) :: r, 1, _, hu => ⟨k, hu (k, false) (by simp), rfl⟩
  | (k, b) :: r, i + 2, h, hu => by
    obtain ⟨q, h1, h2⟩ := useC_at r i (by simp at h; omega) (fun u hm => hu u (List.mem_cons_of_mem _ hm))
    refine ⟨q, h1, ?_⟩
    rw [show (i + 2) % 2 = i % 2 by omega, show (i + 2) / 2 = i / 2 + 1 by omega]
    have e : ((k, b) :: r).getD (i / 2 + 1) default = r.getD (i / 2) default := rfl
    rw [e, ← h2]
    cases b <;> rfl
theorem sto_ins (us : List (Nat × Bool)) (hu : ∀ u ∈ us, u.1 < 4) (i : Nat) (hi : i < 2 * us.length) :
    (i % 2 = 0 → PushI (stoM us) ((stoM us).code.getD i default)) ∧ (i % 2 ≠ 0 → PullI (stoM us) ((stoM us).code.getD i default)) ∧ ((stoM us).code.getD i default).op ≠ 23 ∧ insCode [] 2 (stoM us) ((stoM us).code.getD i default) = 0 ∧ ((stoM us).code.getD i default).bd := by
  obtain ⟨k, hk, e⟩ := useC_at us i hi hu
  have e2 : (stoM us).code.getD i default = (useC us).getD i default := rfl
  rw [e2, e]
  have hz : (stoM us).params.size = 4 := rfl
  have hz2 : (stoM us).locals.size = 0 := rfl
  have ha := sto_at hk us
  cases hb : (us.getD (i / 2) default).2 with
  | true =>
    by_cases hp : i % 2 = 0
    · rw [if_pos hp]
      refine ⟨fun _ => .inl rfl, fun h => absurd hp h, by simp, by simp [insCode, UA, UB], bd_tiny (by decide)⟩
    · rw [if_neg hp]
      refine ⟨fun h => absurd h hp, fun _ => .inr (.inr ⟨rfl, ha⟩), by simp, ?_, bd_tiny (by omega)⟩
      simp only [if_true]
      unfold insCode
      rw [hz, hz2]
      simp [UA, UB]
      omega
  | false =>
    by_cases hp : i % 2 = 0
    · rw [if_pos hp]
      refine ⟨fun _ => .inr (.inr ⟨rfl, ha⟩), fun h => absurd hp h, by simp, ?_, bd_tiny (by omega)⟩
      simp only [Bool.false_eq_true, if_false]
      unfold insCode
      rw [hz, hz2]
      simp [UA, UB]
      omega
    · rw [if_neg hp]
      refine ⟨fun h => absurd h hp, fun _ => .inl rfl, by simp, by simp [insCode, UA, UB], bd_tiny (by decide)⟩
theorem sto_ok (us : List (Nat × Bool)) (hu : ∀ u ∈ us, u.1 < 4) (hl : us.length ≤ 50) : (stoP us).Ok := by
  have two : ∀ j, j < (stoP us).ms.length → j = 0 ∨ j = 1 := by intro j hj; have : (stoP us).ms.length = 2 := rfl; omega
  have hlen := useC_len us
  refine ⟨by show 0 ≤ 12; omega, by show 1 ≤ 2; omega, by show 2 ≤ 12; omega, fun j hj => ?_, fun j hj => ?_, fun j hj q hq => ?_⟩
  · exact absurd hj (by show ¬ j < 0; omega)
  · rcases two j hj with rfl | rfl
    · show headCode 0 r8 = 0
      decide +kernel
    · show headCode 1 (stoM us) = 0
      unfold headCode
      rw [if_neg (by
        show ¬ (12 < 4 ∨ (12 : Int) - ((4 : Nat) : Int) < ((0 : Nat) : Int) ∨ (useC us).length < 1 ∨ 120 < (useC us).length)
        omega), if_neg]
      rintro (h | h | h | ⟨h, _⟩)
      · exact h (show lettersB ⟨#[73, 73, 73, 73]⟩ = true by decide +kernel)
      · exact h (show lettersB ⟨#[]⟩ = true by decide +kernel)
      · exact h (show retOk ⟨#[]⟩ by decide +kernel)
      · omega
  · rcases two j hj with rfl | rfl
    · obtain rfl : q = 0 := by have h : q < 1 := hq; omega
      show insCode [] 2 r8 ⟨33, 0, 0, 0⟩ = 0
      decide +kernel
    · show insCode [] 2 (stoM us) ((stoM us).code.getD q default) = 0
      have hq2 : q < (useC us).length := hq
      by_cases h : q < 2 * us.length
      · exact (sto_ins us hu q h).2.2.2.1
      · obtain rfl : q = 2 * us.length := by omega
        have e : (stoM us).code.getD (2 * us.length) default = ⟨33, 0, 0, 0⟩ := useC_ret us
        rw [e]
        unfold insCode
        simp [UA, UB]
theorem sto_bd (us : List (Nat × Bool)) (hu : ∀ u ∈ us, u.1 < 4) (q : Nat) (hq : q < (useC us).length) : ((useC us).getD q default).bd := by
  have hlen := useC_len us
  by_cases h : q < 2 * us.length
  · exact (sto_ins us hu q h).2.2.2.2
  · obtain rfl : q = 2 * us.length := by omega
    rw [useC_ret]
    exact bd_tiny (by decide)
theorem sto_look (us : List (Nat × Bool)) (hu : ∀ u ∈ us, u.1 < 4) : ∃ s, lookM (stoP us) (stoM us) = .ok s ∧ ∀ i, i ≤ 2 * us.length → seenF s i = true := by
  refine pairs_look (stoP us) (stoM us) us.length (useC_len us) (by show (⟨#[]⟩ : ByteArray).toList = []; decide +kernel) (fun i hi => ⟨(sto_ins us hu i hi).1, (sto_ins us hu i hi).2.1⟩) (fun i hi => (sto_ins us hu i hi).2.2.1) ?_
  show ((useC us).getD (2 * us.length) default).op = 33
  rw [useC_ret]
theorem sto_looks (us : List (Nat × Bool)) (hu : ∀ u ∈ us, u.1 < 4) : ∀ j, j < (stoP us).ms.length → ∃ s, lookM (stoP us) ((stoP us).ms.getD j default) = .ok s := by
  intro j hj
  have h : j = 0 ∨ j = 1 := by have : (stoP us).ms.length = 2 := rfl; omega
  rcases h with rfl | rfl
  · have hr : (r8.code.getD 0 default).op = 33 := rfl
    obtain ⟨s, h1, _⟩ := pairs_look (stoP us) r8 0 rfl (by show (⟨#[]⟩ : ByteArray).toList = []; decide +kernel) (fun i hi => by omega) (fun i hi => by omega) hr
    exact ⟨s, h1⟩
  · obtain ⟨s, h1, _⟩ := sto_look us hu
    exact ⟨s, h1⟩
/-- What is live ahead of the first instruction, and ahead of the last. -/
theorem sto_first {us : List (Nat × Bool)} {s : Lk} (hs : ∀ i, i ≤ 2 * us.length → seenF s i = true) : locG (stoM us) s 0 = ints ((List.range 4).filter fun k => askU k us) := by
  have hl : (stoM us).code.length = 2 * us.length + 1 := useC_len us
  unfold locG
  rw [if_pos ⟨by omega, by omega⟩]
  have e : (kindsL (stoM us)).length = 4 := by rw [sto_kinds]; rfl
  rw [e]
  congr 1
  refine List.filter_congr fun k _ => ?_
  rw [Bool.eq_iff_iff, liveG_iff]
  exact stored_live us (fun i => seenF s i = true) hs k
theorem sto_last {us : List (Nat × Bool)} {s : Lk} : locG (stoM us) s ((2 * us.length : Nat) : Int) = [] := by
  have hl : (stoM us).code.length = 2 * us.length + 1 := useC_len us
  have hop : ((stoM us).code.getD (2 * us.length) default).op = 33 := by
    show ((useC us).getD (2 * us.length) default).op = 33
    rw [useC_ret]
  unfold locG
  rw [if_pos ⟨by omega, by omega⟩, Int.toNat_natCast]
  have e : (List.range (kindsL (stoM us)).length).filter (liveG (stoM us).code (seenF s) (2 * us.length)) = [] := by
    rw [List.filter_eq_nil_iff]
    intro k _ hk
    rw [liveG_iff] at hk
    exact live_end (nextL_ret (by omega) hop) (by rw [hop]; decide) hk
  rw [e]
  rfl

/-- The first uses that are loads, as the law gathers them. -/
def seenU (us : List (Nat × Bool)) (k : Nat) : Bool := us.any fun u => decide (u.1 = k)
def firstU (us : List (Nat × Bool)) : List Int := us.foldl (fun (s : List Int × List (Nat × Bool)) u => (if u.2 = false ∧ seenU s.2 u.1 = false then s.1 ++ [(u.1 : Int)] else s.1, s.2 ++ [u])) ([], []) |>.1
theorem firstU_aux (us : List (Nat × Bool)) : (us.foldl (fun (s : List Int × List (Nat × Bool)) u => (if u.2 = false ∧ seenU s.2 u.1 = false then s.1 ++ [(u.1 : Int)] else s.1, s.2 ++ [u])) ([], [])).2 = us := by
  suffices h : ∀ (a : List Int) (b : List (Nat × Bool)), (us.foldl (fun (s : List Int × List (Nat × Bool)) u => (if u.2 = false ∧ seenU s.2 u.1 = false then s.1 ++ [(u.1 : Int)] else s.1, s.2 ++ [u])) (a, b)).2 = b ++ us by simpa using h [] []
  induction us with
  | nil => intro a b; simp
  | cons u us ih =>
    intro a b
    rw [List.foldl_cons, ih]
    simp
theorem firstU_snoc (us : List (Nat × Bool)) (u : Nat × Bool) : firstU (us ++ [u]) = if u.2 = false ∧ seenU us u.1 = false then firstU us ++ [(u.1 : Int)] else firstU us := by
  unfold firstU
  rw [List.foldl_append]
  simp only [List.foldl_cons, List.foldl_nil, firstU_aux]
theorem askU_snoc (k : Nat) (u : Nat × Bool) : ∀ us : List (Nat × Bool), askU k (us ++ [u]) = (askU k us || (!seenU us k && (decide (u.1 = k) && !u.2)))
  | [] => by
    obtain ⟨q, b⟩ := u
    show (if q = k then !b else false) = (false || (!false && (decide (q = k) && !b)))
    by_cases h : q = k
    · rw [if_pos h, decide_eq_true h]; simp
    · rw [if_neg h, decide_eq_false h]; simp
  | (q, b) :: r => by
    show (if q = k then !b else askU k (r ++ [u])) = ((if q = k then !b else askU k r) || (!(decide (q = k) || seenU r k) && (decide (u.1 = k) && !u.2)))
    by_cases h : q = k
    · rw [if_pos h, if_pos h, decide_eq_true h]; simp
    · rw [if_neg h, if_neg h, decide_eq_false h, askU_snoc k u r]; simp
theorem firstU_mem (us : List (Nat × Bool)) (k : Nat) : (k : Int) ∈ firstU us ↔ askU k us = true := by
  suffices h : ∀ n, ∀ us : List (Nat × Bool), us.length = n → ((k : Int) ∈ firstU us ↔ askU k us = true) from h _ us rfl
  intro n
  induction n with
  | zero =>
    intro us hu
    obtain rfl : us = [] := List.eq_nil_of_length_eq_zero hu
    simp [firstU, askU]
  | succ n ih =>
    intro us hu
    obtain ⟨r, u, rfl⟩ : ∃ r u, us = r ++ [u] := ⟨us.dropLast, us.getLast (by rintro rfl; simp at hu), (List.dropLast_concat_getLast _).symm⟩
    have hr : r.length = n := by simpa using hu
    rw [firstU_snoc, askU_snoc]
    by_cases h : u.2 = false ∧ seenU r u.1 = false
    · rw [if_pos h, List.mem_append, ih r hr, List.mem_singleton]
      by_cases e : u.1 = k
      · subst e
        simp [h.1, h.2]
      · simp [e]
        omega
    · rw [if_neg h, ih r hr]
      by_cases e : u.1 = k
      · subst e
        by_cases h2 : u.2 = false
        · have h3 : seenU r u.1 = true := by
            cases h4 : seenU r u.1 with
            | true => rfl
            | false => exact absurd ⟨h2, h4⟩ h
          simp [h3]
        · simp at h2
          simp [h2]
      · simp [e]
theorem firstU_len (us : List (Nat × Bool)) : (firstU us).length ≤ us.length := by
  suffices h : ∀ n, ∀ us : List (Nat × Bool), us.length = n → (firstU us).length ≤ n from h _ us rfl
  intro n
  induction n with
  | zero =>
    intro us hu
    obtain rfl : us = [] := List.eq_nil_of_length_eq_zero hu
    simp [firstU]
  | succ n ih =>
    intro us hu
    obtain ⟨r, u, rfl⟩ : ∃ r u, us = r ++ [u] := ⟨us.dropLast, us.getLast (by rintro rfl; simp at hu), (List.dropLast_concat_getLast _).symm⟩
    have hr : r.length = n := by simpa using hu
    have := ih r hr
    rw [firstU_snoc]
    split
    · simp; omega
    · omega
theorem firstU_pos (us : List (Nat × Bool)) : ∀ x ∈ firstU us, ∃ k : Nat, x = (k : Int) ∧ ∃ u ∈ us, u.1 = k := by
  suffices h : ∀ n, ∀ us : List (Nat × Bool), us.length = n → ∀ x ∈ firstU us, ∃ k : Nat, x = (k : Int) ∧ ∃ u ∈ us, u.1 = k from h _ us rfl
  intro n
  induction n with
  | zero =>
    intro us hu
    obtain rfl : us = [] := List.eq_nil_of_length_eq_zero hu
    simp [firstU]
  | succ n ih =>
    intro us hu
    obtain ⟨r, u, rfl⟩ : ∃ r u, us = r ++ [u] := ⟨us.dropLast, us.getLast (by rintro rfl; simp at hu), (List.dropLast_concat_getLast _).symm⟩
    have hr : r.length = n := by simpa using hu
    intro x hx
    rw [firstU_snoc] at hx
    have old : x ∈ firstU r → ∃ k : Nat, x = (k : Int) ∧ ∃ v ∈ r ++ [u], v.1 = k := fun h => by
      obtain ⟨k, h1, v, h2, h3⟩ := ih r hr x h
      exact ⟨k, h1, v, List.mem_append_left _ h2, h3⟩
    split at hx
    · rcases List.mem_append.1 hx with h | h
      · exact old h
      · rw [List.mem_singleton] at h
        exact ⟨u.1, h, u, by simp, rfl⟩
    · exact old hx
/-- Sorted they are what is live. -/
theorem firstU_sorted (us : List (Nat × Bool)) (hu : ∀ u ∈ us, u.1 < 4) : sortL (firstU us) = ints ((List.range 4).filter fun k => askU k us) := by
  have h1 := sortL_spec (firstU us)
  refine sorted_eq _ _ h1.1 ?_ (fun x => ?_)
  · unfold ints
    rw [List.pairwise_map]
    refine (List.Pairwise.filter _ List.pairwise_lt_range).imp (fun h => ?_)
    omega
  · rw [h1.2]
    unfold ints
    rw [List.mem_map]
    constructor
    · intro hx
      obtain ⟨k, rfl, u, hm, e⟩ := firstU_pos us x hx
      refine ⟨k, ?_, rfl⟩
      rw [List.mem_filter, List.mem_range]
      exact ⟨by rw [← e]; exact hu u hm, (firstU_mem us k).1 hx⟩
    · rintro ⟨k, hk, rfl⟩
      rw [List.mem_filter] at hk
      exact (firstU_mem us k).2 hk.2
end Go.Proofs.YtpmfbhoochogoaaGreatDoor
