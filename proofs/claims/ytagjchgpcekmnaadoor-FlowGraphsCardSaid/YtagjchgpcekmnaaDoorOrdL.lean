/- FlowOrders, plain: where each place stands in the order. -/
import Derived.Test.YtagjchgpcekmnaaDoorReach
import Derived.Test.YtagjchgpcekmnaaDoorOrder
namespace Go.Proofs.YtagjchgpcekmnaaDoor
open Go.RowKit

/-- Where a place stands in a row; -1: nowhere. -/
def atv (o : List Nat) (i : Nat) : Int := if i ∈ o then (o.idxOf i : Int) else -1
def atR (o : List Nat) (n : Nat) : List Int := (List.range n).map (atv o)
theorem atR_len (o : List Nat) (n : Nat) : (atR o n).length = n := by simp [atR]
theorem atR_get (o : List Nat) (n i : Nat) (h : i < n) : (atR o n).getD i 0 = atv o i := by
  simp [atR, List.getD_eq_getElem?_getD, h]
/-- The first m places hold -1. -/
def atM (n m : Nat) : List Int := (List.range n).map fun i => if i < m then -1 else 0
theorem atM_len (n m : Nat) : (atM n m).length = n := by simp [atM]
theorem atM_zero (n : Nat) : atM n 0 = List.replicate n 0 := by
  apply List.ext_getElem
  · simp [atM]
  · intro i h1 h2; simp [atM]
theorem atM_step (n m : Nat) (_h : m < n) : (atM n m).set m (-1) = atM n (m + 1) := by
  unfold atM
  apply List.ext_getElem
  · simp
  · intro k h1 h2
    simp only [List.getElem_set, List.getElem_map, List.getElem_range]
    by_cases e : m = k
    · subst e; simp
    · rw [if_neg e]
      by_cases e2 : k < m
      · rw [if_pos e2, if_pos (by omega)]
      · rw [if_neg e2, if_neg (by omega)]
theorem atM_all (n : Nat) : atM n n = atR [] n := by
  unfold atM atR
  refine List.map_congr_left (fun i hi => ?_)
  rw [List.mem_range] at hi
  rw [if_pos hi]
  simp [atv]
theorem atv_nonneg (o : List Nat) (i : Nat) : 0 ≤ atv o i ↔ i ∈ o := by
  unfold atv
  split
  · simp [*]
  · constructor
    · intro h; omega
    · intro h; contradiction
theorem idxOf_cons_ne' {a x : Nat} (l : List Nat) (h : a ≠ x) : (a :: l).idxOf x = l.idxOf x + 1 := by
  rw [List.idxOf_cons]
  have : (a == x) = false := by simpa using h
  rw [this]; rfl
theorem idxOf_snoc (a : List Nat) (x k : Nat) (hx : x ∉ a) : (a ++ [x]).idxOf k = if k ∈ a then a.idxOf k else if k = x then a.length else a.length + 1 := by
  rw [List.idxOf_append]
  split
  · rfl
  · by_cases e : k = x
    · subst e; simp
    · rw [if_neg e]
      rw [idxOf_cons_ne' _ (Ne.symm e)]
      simp only [List.idxOf_nil]
      omega
theorem take_snoc {α : Type} (l : List α) (m : Nat) (d : α) (h : m < l.length) : l.take (m + 1) = l.take m ++ [l.getD m d] := by
  rw [List.take_succ_eq_append_getElem h, List.getD_eq_getElem?_getD, List.getElem?_eq_getElem h]
  rfl
theorem take_not (o : List Nat) (m : Nat) (hn : o.Nodup) (h : m < o.length) : o.getD m 0 ∉ o.take m := by
  intro hm
  have e := take_snoc o m 0 h
  have hs : (o.take (m + 1)).Nodup := hn.sublist (List.take_sublist _ _)
  rw [e, List.nodup_append] at hs
  exact hs.2.2 _ hm _ (by simp) rfl
theorem atR_step (o : List Nat) (n m : Nat) (hn : o.Nodup) (h : m < o.length) : (atR (o.take m) n).set (o.getD m 0) (m : Int) = atR (o.take (m + 1)) n := by
  have hno := take_not o m hn h
  rw [take_snoc o m 0 h]
  generalize o.getD m 0 = x at hno
  have hlen : (o.take m).length = m := by simp; omega
  generalize o.take m = a at hno hlen
  unfold atR
  apply List.ext_getElem
  · simp
  · intro k h1 h2
    simp only [List.getElem_set, List.getElem_map, List.getElem_range]
    unfold atv
    rw [idxOf_snoc a x k hno]
    by_cases e : x = k
    · subst e
      rw [if_pos rfl, if_pos (by simp), if_neg hno, if_pos rfl, hlen]
    · rw [if_neg e]
      by_cases e2 : k ∈ a
      · rw [if_pos e2, if_pos (by simp [e2]), if_pos e2]
      · rw [if_neg e2, if_neg (by simp [e2]; exact fun e3 => e e3.symm)]

theorem idxOf_rev (l : List Nat) (hn : l.Nodup) (i : Nat) (hi : i ∈ l) : l.reverse.idxOf i + l.idxOf i + 1 = l.length := by
  induction l with
  | nil => simp at hi
  | cons a l ih =>
    rw [List.nodup_cons] at hn
    rw [List.reverse_cons, List.idxOf_append]
    by_cases e : a = i
    · subst e
      have : a ∉ l.reverse := by simp [hn.1]
      rw [if_neg this]
      simp
    · have hm : i ∈ l := by rcases List.mem_cons.1 hi with h | h; exact absurd h.symm e; exact h
      rw [if_pos (by simp [hm]), idxOf_cons_ne' _ e]
      have := ih hn.2 hm
      simp only [List.length_cons]
      omega

/-- What the order says of the whole walk. -/
structure OrdIs (g : List (List Int)) (o : List Nat) (bk : List (Nat × Nat)) (st : List Nat) : Prop where
  nd : o.Nodup
  lt : ∀ i ∈ o, i < g.length
  first : o.getD 0 0 = 0
  ne : 0 < o.length
  st2 : ∀ i, st.getD i 0 = 2 ↔ i ∈ o
  edge : ∀ i, i ∈ o → ∀ j : Nat, j < g.length → (j : Int) ∈ g.getD i [] → j ∈ o ∧ (atv o j ≤ atv o i ↔ (i, j) ∈ bk)

theorem ord_is (g : List (List Int)) (h0 : 0 < g.length) : OrdIs g (dfs (cleanG g)).post.reverse (dfs (cleanG g)).back (dfs (cleanG g)).st := by
  have hc := cleanG_clean g
  have hlen := cleanG_len g
  have hne : cleanG g ≠ [] := fun e => by rw [e] at hlen; simp at hlen; omega
  obtain ⟨hI, hs⟩ := dfs_inv hc hne
  have hord : (dfs (cleanG g)).ord = (dfs (cleanG g)).post := by unfold Dfs.ord; rw [hs]; simp
  have hnd := hI.nd
  have hlast := hI.last
  have hbk := hI.bk
  have hfw := hI.fw
  rw [hord] at hnd hlast hbk hfw
  have hlt : ∀ i ∈ (dfs (cleanG g)).post, i < g.length := fun i hi => by
    have := hI.lt (i := i) (by rw [hord]; exact hi)
    rw [hlen] at this; exact this
  have hp2 := hI.post2
  have hdone := hI.done
  have hcr := fun i hi => cleanG_get g i hi
  generalize (dfs (cleanG g)) = s at *
  have hpne : s.post ≠ [] := fun e => by rw [e] at hlast; simp at hlast
  refine ⟨nodup_rev (by rw [List.reverse_reverse]; exact hnd), fun i hi => hlt i (List.mem_reverse.1 hi), ?_, ?_, fun i => ?_, fun i hi j hj hm => ?_⟩
  · rw [List.getD_eq_getElem?_getD, ← List.head?_eq_getElem?, List.head?_reverse, hlast]; rfl
  · rw [List.length_reverse]; exact List.length_pos_iff.2 hpne
  · rw [List.mem_reverse]; exact (hp2 i).symm
  · rw [List.mem_reverse] at hi
    have hin := hlt i hi
    have hjm : j ∈ (cleanG g).getD i [] := by
      rw [hcr i hin]
      exact ((crow_spec _ _).2 j).2 ⟨hj, hm⟩
    obtain ⟨q, hq, hqj⟩ := List.getElem_of_mem hjm
    have hd := hdone i ((hp2 i).1 hi)
    have hqd : ((cleanG g).getD i []).getD q 0 = j := by
      rw [List.getD_eq_getElem?_getD, List.getElem?_eq_getElem hq]; exact hqj
    have hav : ∀ k ∈ s.post, atv s.post.reverse k = (s.post.length : Int) - s.post.idxOf k - 1 := fun k hk => by
      unfold atv
      rw [if_pos (List.mem_reverse.2 hk)]
      have := idxOf_rev s.post hnd k hk
      omega
    by_cases hb : (i, j) ∈ s.back
    · obtain ⟨h1, h2, h3⟩ := hbk i j hb
      refine ⟨List.mem_reverse.2 h1, ?_⟩
      rw [hav j h1, hav i h2]
      constructor
      · intro _; exact hb
      · intro _; omega
    · have h1 := hfw i q (by rw [hd]; exact hq) (by rw [hqd]; exact hb)
      rw [hqd] at h1
      have hjp : j ∈ s.post := by
        have h2 : s.post.idxOf i < s.post.length := List.idxOf_lt_length_of_mem hi
        exact List.idxOf_lt_length_iff.1 (by omega)
      refine ⟨List.mem_reverse.2 hjp, ?_⟩
      rw [hav j hjp, hav i hi]
      constructor
      · intro _; omega
      · intro h; exact absurd h hb

end Go.Proofs.YtagjchgpcekmnaaDoor
