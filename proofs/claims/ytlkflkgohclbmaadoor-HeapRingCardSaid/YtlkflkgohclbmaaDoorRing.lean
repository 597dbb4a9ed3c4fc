/- HeapRing: the shape of a ring, in plain Lean. -/
import Derived.Test.YtlkflkgohclbmaaDoorAny
namespace Go.Proofs.YtlkflkgohclbmaaDoor
open Go.RowKit

/-- A ring of n objects: the i-th has val i, and the next one. -/
structure RingOk (S : Hp) (n : Nat) (ls : Nat → Int) (val : Nat → Int) : Prop where
  is : ∀ i, i < n → S.is (ls i) = true
  cls : ∀ i, i < n → S.cls (ls i) = 0
  num : ∀ i, i < n → S.num (ls i) = 2
  v0 : ∀ i, i < n → S.get (ls i) 0 = val i
  v1 : ∀ i, i < n → S.get (ls i) 1 = ls ((i + 1) % n)
  r0 : ∀ i, i < n → S.refB (ls i) 0 = false
  r1 : ∀ i, i < n → S.refB (ls i) 1 = true
  inj : ∀ i j, i < n → j < n → ls i = ls j → i = j

theorem is_zero (S : Hp) : S.is 0 = false := by unfold Hp.is; simp

/-- The order behind k rounds. -/
def ringOd (n from_ : Nat) (ls : Nat → Int) (m : Nat) : List Int := (List.range m).map fun j => ls ((from_ + j) % n)
def ringOb (n from_ : Nat) (val : Nat → Int) (i : Nat) : Int × List Int := (0, [val ((from_ + i) % n), (((i + 1) % n : Nat) : Int)])

theorem mod_inj {n a i j : Nat} (hi : i < n) (hj : j < n) (h : (a + i) % n = (a + j) % n) : i = j := by
  have h1 := Nat.div_add_mod (a + i) n
  have h2 := Nat.div_add_mod (a + j) n
  rw [h] at h1
  generalize (a + i) / n = q1 at h1
  generalize (a + j) / n = q2 at h2
  rcases Nat.lt_trichotomy q1 q2 with hq | hq | hq
  · have h3 := Nat.mul_le_mul_left n (show q1 + 1 ≤ q2 from hq)
    rw [Nat.mul_add, Nat.mul_one] at h3
    omega
  · subst hq; omega
  · have h3 := Nat.mul_le_mul_left n (show q2 + 1 ≤ q1 from hq)
    rw [Nat.mul_add, Nat.mul_one] at h3
    omega

theorem ringOd_mem {n f : Nat} {ls : Nat → Int} {m : Nat} {S : Hp} {val : Nat → Int} (h : RingOk S n ls val) (hm : m ≤ n) (k : Nat) (hk : k < n) : ls ((f + k) % n) ∈ ringOd n f ls m ↔ k < m := by
  have hn : 0 < n := by omega
  unfold ringOd
  rw [List.mem_map]
  constructor
  · rintro ⟨j, hj, he⟩
    rw [List.mem_range] at hj
    have h1 := h.inj _ _ (Nat.mod_lt _ hn) (Nat.mod_lt _ hn) he
    have := mod_inj (by omega) hk h1
    omega
  · intro hkm
    exact ⟨k, List.mem_range.2 hkm, rfl⟩

theorem ringOd_idx {n f : Nat} {ls : Nat → Int} {m : Nat} {S : Hp} {val : Nat → Int} (h : RingOk S n ls val) (hm : m ≤ n) (k : Nat) (hk : k < m) : (ringOd n f ls m).idxOf (ls ((f + k) % n)) = k := by
  have hn : 0 < n := by omega
  have hnd : (ringOd n f ls m).Nodup := by
    unfold ringOd
    unfold List.Nodup
    rw [List.pairwise_map]
    refine List.Pairwise.imp_of_mem ?_ (List.pairwise_lt_range (n := m))
    intro x y hx hy hlt he
    rw [List.mem_range] at hx hy
    have := mod_inj (by omega) (by omega) (h.inj _ _ (Nat.mod_lt _ hn) (Nat.mod_lt _ hn) he)
    omega
  have hl : (ringOd n f ls m).length = m := by simp [ringOd]
  have hg : (ringOd n f ls m)[k]'(by omega) = ls ((f + k) % n) := by simp [ringOd]
  rw [← hg]
  exact hnd.idxOf_getElem k (by omega)

theorem ringOd_succ (n f : Nat) (ls : Nat → Int) (m : Nat) : ringOd n f ls (m + 1) = ringOd n f ls m ++ [ls ((f + m) % n)] := by
  simp [ringOd, List.range_succ]

theorem ring_out {S : Hp} {n f : Nat} {ls val : Nat → Int} (h : RingOk S n ls val) (hf : f < n) (k : Nat) (hk : k ≤ n) :
    S.outN k ([], [ls f]) = ((List.range k).map (ringOb n f val), ringOd n f ls (min (k + 1) n)) := by
  induction k with
  | zero =>
    have e : min (0 + 1) n = 1 := by omega
    rw [e]
    simp [Hp.outN, ringOd, Nat.mod_eq_of_lt hf]
  | succ k ih =>
    have ih' := ih (by omega)
    show S.outStep (S.outN k _) = _
    rw [ih']
    have e1 : min (k + 1) n = k + 1 := by omega
    rw [e1]
    have hl1 : ((List.range k).map (ringOb n f val)).length = k := by simp
    have hl2 : (ringOd n f ls (k + 1)).length = k + 1 := by simp [ringOd]
    have hkn := Nat.mod_lt (f + k) (show 0 < n by omega)
    have hgd : (ringOd n f ls (k + 1)).getD k 0 = ls ((f + k) % n) := by
      rw [List.getD_eq_getElem?_getD]
      simp [ringOd]
    unfold Hp.outStep
    simp only [hl1, hl2, hgd]
    rw [if_pos (by omega), h.cls _ hkn, h.num _ hkn]
    have e2 : (2 : Int).toNat = 0 + 1 + 1 := rfl
    rw [e2, vals_succ, vals_succ]
    have e3 : S.vals (ls ((f + k) % n)) (ringOd n f ls (k + 1)) 0 = ([], ringOd n f ls (k + 1)) := rfl
    rw [e3]
    unfold Hp.valStep
    have r0 := h.r0 _ hkn
    have r1 := h.r1 _ hkn
    rw [show ((0 : Nat) : Int) = 0 from rfl, show ((0 + 1 : Nat) : Int) = 1 from rfl, r0, r1]
    simp only [Bool.false_eq_true, if_false, if_true, List.nil_append]
    rw [h.v0 _ hkn, h.v1 _ hkn]
    have hnx : ls (((f + k) % n + 1) % n) = ls ((f + (k + 1)) % n) := by
      congr 1
      rw [Nat.mod_add_mod, Nat.add_assoc]
    rw [hnx]
    have hisx : S.is (ls ((f + (k + 1)) % n)) = true := h.is _ (Nat.mod_lt _ (by omega))
    unfold Hp.meetV Hp.meetO
    rw [if_pos hisx]
    by_cases hlast : k + 1 < n
    · have hnot : ls ((f + (k + 1)) % n) ∉ ringOd n f ls (k + 1) := by rw [ringOd_mem h (by omega) _ hlast]; omega
      rw [if_pos ⟨hisx, hnot⟩, List.idxOf_eq_length hnot, hl2]
      have e4 : min (k + 1 + 1) n = k + 1 + 1 := by omega
      rw [e4, ringOd_succ n f ls (k + 1), List.range_succ, List.map_append]
      simp [ringOb, Nat.mod_eq_of_lt hlast]
    · have hn : n = k + 1 := by omega
      have hin : ls ((f + (k + 1)) % n) ∈ ringOd n f ls (k + 1) := by
        have e5 : (f + (k + 1)) % n = (f + 0) % n := by rw [hn, Nat.add_mod_right]; rfl
        rw [e5, ringOd_mem h (by omega) 0 (by omega)]
        omega
      rw [if_neg (by intro hc; exact hc.2 hin)]
      have hidx : (ringOd n f ls (k + 1)).idxOf (ls ((f + (k + 1)) % n)) = 0 := by
        have e5 : (f + (k + 1)) % n = (f + 0) % n := by rw [hn, Nat.add_mod_right]; rfl
        rw [e5]
        exact ringOd_idx h (by omega) 0 (by omega)
      rw [hidx]
      have e4 : min (k + 1 + 1) n = k + 1 := by omega
      rw [e4, List.range_succ, List.map_append]
      have e6 : (k + 1) % n = 0 := by rw [hn]; exact Nat.mod_self _
      simp [ringOb, e6]

theorem ring_shape {S : Hp} {n f : Nat} {ls val : Nat → Int} (h : RingOk S n ls val) (hf : f < n) (hlen : n ≤ S.A.length) :
    S.shape [ls f, 0, ls f] = ((List.range n).map (ringOb n f val), [0, -1, 0]) := by
  have hr : S.roots [ls f, 0, ls f] = ([0, -1, 0], [ls f]) := by
    have h1 := h.is f hf
    have h2 := is_zero S
    simp [Hp.roots, Hp.rootStep, Hp.meetV, Hp.meetO, h1, h2]
  have ho := ring_out h hf n (Nat.le_refl _)
  have e : min (n + 1) n = n := by omega
  rw [e] at ho
  have hs : S.outN (S.A.length + 1) ([], [ls f]) = S.outN n ([], [ls f]) := outN_stay S _ n _ (by rw [ho]; simp [ringOd]) (by omega)
  unfold Hp.shape
  rw [hr]
  simp only
  rw [hs, ho]

end Go.Proofs.YtlkflkgohclbmaaDoor
