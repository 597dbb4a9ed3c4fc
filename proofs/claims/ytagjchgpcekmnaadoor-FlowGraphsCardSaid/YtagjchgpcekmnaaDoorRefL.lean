/- The document's blocks, plain: what its walk reckons is what the program's does. -/
import Derived.Test.YtagjchgpcekmnaaDoorCovL
import Derived.Test.YtagjchgpcekmnaaDoorFlowT
namespace Go.Proofs.YtagjchgpcekmnaaDoor

/-- Where the document's first loop sets a mark, behind m rounds. -/
def headB (xs : List Ins) (m k : Nat) : Bool := (k == 0 && decide (0 < m)) || (List.range m).any fun j => beg1 (xs.getD j default) j k
def tabB (N : Nat) (f : Nat → Bool) : List Bool := (List.range N).map f
theorem tabB_len (N : Nat) (f : Nat → Bool) : (tabB N f).length = N := by simp [tabB]
theorem tabB_get (N : Nat) (f : Nat → Bool) (i : Nat) (h : i < N) : (tabB N f).getD i false = f i := by simp [tabB, List.getD_eq_getElem?_getD, h]
theorem tabB_set (N : Nat) (f : Nat → Bool) (p : Nat) : (tabB N f).set p true = tabB N (fun k => f k || k == p) := by
  unfold tabB
  apply List.ext_getElem
  · simp
  · intro k h1 h2
    simp only [List.getElem_set, List.getElem_map, List.getElem_range]
    by_cases e : p = k
    · subst e; simp
    · rw [if_neg e]
      have : (k == p) = false := by rw [beq_eq_false_iff_ne]; exact fun e2 => e e2.symm
      simp [this]
theorem tabB_congr (N : Nat) (f h : Nat → Bool) (e : ∀ k, f k = h k) : tabB N f = tabB N h := by rw [show f = h from funext e]
theorem headB_zero (xs : List Ins) (N : Nat) : tabB N (headB xs 0) = List.replicate N false := by
  unfold tabB headB
  apply List.ext_getElem
  · simp
  · intro i h1 h2; simp
theorem headB_succ (xs : List Ins) (m k : Nat) : headB xs (m + 1) k = ((headB xs m k || k == 0) || beg1 (xs.getD m default) m k) := by
  unfold headB
  rw [List.range_succ, List.any_append]
  simp only [List.any_cons, List.any_nil, Bool.or_false]
  cases (k == 0) <;> cases ((List.range m).any fun j => beg1 (xs.getD j default) j k) <;> cases (beg1 (xs.getD m default) m k) <;> simp
theorem headB_pos (xs : List Ins) (m k : Nat) (h : 0 < m) : (headB xs m k || k == 0) = headB xs m k := by
  unfold headB
  rw [decide_eq_true h]
  cases (k == 0) <;> simp
theorem headB_begU (xs : List Ins) (k : Nat) (h : k < xs.length) : headB xs xs.length k = begU xs xs.length k := by
  unfold headB begU
  rw [decide_eq_true h, decide_eq_true (show 0 < xs.length by omega)]
  simp
/-- The marks behind a round: by what the instruction is. -/
theorem headB_jump (xs : List Ins) (m k : Nat) (a : Nat) (h : (xs.getD m default).op = 22 ∨ (xs.getD m default).op = 23) (ha : (xs.getD m default).a = (a : Int)) : headB xs (m + 1) k = (((headB xs m k || k == 0) || k == m + 1) || k == a) := by
  rw [headB_succ]
  have : beg1 (xs.getD m default) m k = (k == m + 1 || k == a) := by
    unfold beg1
    generalize xs.getD m default = x at h ha
    have h1 : (x.op == 22 || x.op == 23) = true := by rcases h with e | e <;> simp [e]
    have h2 : (x.op == 33) = false := by rcases h with e | e <;> simp [e]
    rw [h1, h2, ha]
    have e1 : decide ((a : Int) = (k : Int)) = (k == a) := by rw [Bool.eq_iff_iff]; simp; omega
    have e2 : decide (m + 1 = k) = (k == m + 1) := by rw [Bool.eq_iff_iff]; simp; omega
    rw [e1, e2]
    cases (k == a) <;> cases (k == m + 1) <;> rfl
  rw [this, Bool.or_assoc (headB xs m k || k == 0)]
theorem headB_ret (xs : List Ins) (m k : Nat) (h : (xs.getD m default).op = 33) : headB xs (m + 1) k = ((headB xs m k || k == 0) || k == m + 1) := by
  rw [headB_succ]
  have : beg1 (xs.getD m default) m k = (k == m + 1) := by
    unfold beg1
    generalize xs.getD m default = x at h
    rw [h]
    have e2 : decide (m + 1 = k) = (k == m + 1) := by rw [Bool.eq_iff_iff]; simp; omega
    rw [e2]
    simp
  rw [this]
theorem headB_no (xs : List Ins) (m k : Nat) (h1 : (xs.getD m default).op ≠ 22) (h2 : (xs.getD m default).op ≠ 23) (h3 : (xs.getD m default).op ≠ 33) : headB xs (m + 1) k = (headB xs m k || k == 0) := by
  rw [headB_succ]
  have : beg1 (xs.getD m default) m k = false := by
    unfold beg1
    generalize xs.getD m default = x at h1 h2 h3
    simp [h1, h2, h3]
  rw [this, Bool.or_false]

/-- The blocks that begin ahead of m. -/
def begP (xs : List Ins) (m : Nat) : List Nat := (List.range m).filter (headB xs xs.length)
theorem begP_succ (xs : List Ins) (m : Nat) : begP xs (m + 1) = if headB xs xs.length m = true then begP xs m ++ [m] else begP xs m := by
  unfold begP
  rw [List.range_succ, List.filter_append]
  by_cases h : headB xs xs.length m = true
  · rw [if_pos h, List.filter_cons_of_pos h]; rfl
  · rw [if_neg h, List.filter_cons_of_neg h]; simp
theorem begP_all (xs : List Ins) : begP xs xs.length = begL xs := by
  unfold begP begL
  refine List.filter_congr (fun k hk => ?_)
  rw [List.mem_range] at hk
  rw [headB_begU xs k hk]
theorem begP_pos (xs : List Ins) (m : Nat) (h : 1 ≤ xs.length) (hm : 0 < m) : 0 < (begP xs m).length := by
  have : 0 ∈ begP xs m := by
    unfold begP
    rw [List.mem_filter, List.mem_range]
    refine ⟨hm, ?_⟩
    unfold headB
    rw [decide_eq_true (show 0 < xs.length by omega)]
    simp
  exact List.length_pos_of_mem this
theorem begP_len (xs : List Ins) (m : Nat) : (begP xs m).length ≤ m := by
  have := List.length_filter_le (headB xs xs.length) (List.range m)
  rwa [List.length_range] at this
/-- Of each place its block's number. -/
def numB (xs : List Ins) (k : Nat) : Nat := (begP xs (k + 1)).length - 1
def numT (xs : List Ins) (m : Nat) : List Int := (List.range (xs.length + 1)).map fun k => if k < m then ((numB xs k : Nat) : Int) else 0
theorem numT_len (xs : List Ins) (m : Nat) : (numT xs m).length = xs.length + 1 := by simp [numT]
theorem numT_get (xs : List Ins) (m k : Nat) (h : k < xs.length + 1) : (numT xs m).getD k 0 = if k < m then ((numB xs k : Nat) : Int) else 0 := by
  simp only [numT, List.getD_eq_getElem?_getD, List.getElem?_map]
  rw [List.getElem?_range h]
  rfl
theorem numT_zero (xs : List Ins) : numT xs 0 = List.replicate (xs.length + 1) 0 := by
  unfold numT
  apply List.ext_getElem
  · simp
  · intro i h1 h2; simp
theorem numT_step (xs : List Ins) (m : Nat) : (numT xs m).set m ((numB xs m : Nat) : Int) = numT xs (m + 1) := by
  unfold numT
  apply List.ext_getElem
  · simp
  · intro k h1 h2
    simp only [List.getElem_set, List.getElem_map, List.getElem_range]
    by_cases e : m = k
    · subst e; simp
    · rw [if_neg e]
      by_cases e2 : k < m
      · rw [if_pos e2, if_pos (by omega)]
      · rw [if_neg e2, if_neg (by omega)]
/-- At a block's beginning the number is the block's. -/
theorem numB_beg (xs : List Ins) (k : Nat) (h : k < (begL xs).length) : numB xs (bfr xs k) = k := by
  have key : ∀ m, m ≤ xs.length → begP xs m = (begL xs).filter (fun p => decide (p < m)) := fun m hm => by
    rw [← begP_all]
    unfold begP
    rw [List.filter_filter]
    obtain ⟨d, hd⟩ : ∃ d, xs.length = m + d := ⟨xs.length - m, by omega⟩
    rw [hd, List.range_add, List.filter_append]
    have e1 : (List.range m).filter (fun a => decide (a < m) && headB xs (m + d) a) = (List.range m).filter (headB xs (m + d)) := List.filter_congr (fun a ha => by
      rw [List.mem_range] at ha
      rw [decide_eq_true ha, Bool.true_and])
    have e2 : ((List.range d).map (m + ·)).filter (fun a => decide (a < m) && headB xs (m + d) a) = [] := by
      rw [List.filter_eq_nil_iff]
      intro a ha
      rw [List.mem_map] at ha
      obtain ⟨b, _, rfl⟩ := ha
      rw [decide_eq_false (show ¬ m + b < m by omega)]
      simp
    rw [e1, e2, List.append_nil]
  have hlt := bfr_lt xs k h
  unfold numB
  rw [key _ (by omega)]
  have : (begL xs).filter (fun p => decide (p < bfr xs k + 1)) = (begL xs).take (k + 1) := by
    have hs := begL_sorted xs
    rw [← List.take_append_drop (k + 1) (begL xs), List.filter_append]
    have e1 : ((begL xs).take (k + 1)).filter (fun p => decide (p < bfr xs k + 1)) = (begL xs).take (k + 1) := by
      rw [List.filter_eq_self]
      intro p hp
      obtain ⟨i, hi, rfl⟩ := List.getElem_of_mem hp
      rw [List.length_take] at hi
      rw [List.getElem_take, decide_eq_true_eq]
      by_cases e : i = k
      · subst e
        unfold bfr
        rw [List.getD_eq_getElem?_getD, List.getElem?_eq_getElem h]
        simp
      · have := sorted_lt hs 0 (show i < k by omega) h
        unfold bfr
        rw [List.getD_eq_getElem?_getD, List.getElem?_eq_getElem (show i < (begL xs).length by omega)] at this
        simp only [Option.getD_some] at this
        omega
    have e2 : ((begL xs).drop (k + 1)).filter (fun p => decide (p < bfr xs k + 1)) = [] := by
      rw [List.filter_eq_nil_iff]
      intro p hp
      obtain ⟨i, hi, rfl⟩ := List.getElem_of_mem hp
      rw [List.length_drop] at hi
      rw [List.getElem_drop, decide_eq_true_eq]
      have := sorted_lt hs 0 (show k < k + 1 + i by omega) (show k + 1 + i < (begL xs).length by omega)
      unfold bfr
      rw [List.getD_eq_getElem?_getD (l := begL xs) (i := k + 1 + i), List.getElem?_eq_getElem (show k + 1 + i < (begL xs).length by omega)] at this
      simp only [Option.getD_some] at this
      omega
    have e3 : (begL xs).take (k + 1) ++ (begL xs).drop (k + 1) = begL xs := List.take_append_drop _ _
    rw [e1, e2, List.append_nil, List.take_append_of_le_length (by rw [List.length_take]; omega), List.take_take, Nat.min_self]
  rw [this, List.length_take]
  omega

end Go.Proofs.YtagjchgpcekmnaaDoor
