/- HeapRing: the shape of a ring, in plain Lean. HeapRing: the heap in its two loops, in plain Lean. -/
import Derived.Test.YtneeljhjfmcdoaaDoorAny
/-! HeapRing: the shape of a ring, in plain Lean. -/
namespace Go.Proofs.YtneeljhjfmcdoaaDoor
open Go.RowKit

/-- A ring of n objects: the i-th has val i, and the next one. -/
structure RingOk (S : Hp) (n : Nat) (ls : Nat → Int) (val : Nat → Int) : Prop where
  is : ∀ i, i < n → S.is (ls i) = true
  cls : ∀ i, i < n → S.cls (ls i) = 0
  num : ∀ i, i < n → S.num (ls i) = 2
  v0 : ∀ i, i < n → S.get (ls i) 0 = val i
  v1 : ∀ i, i < n → S.get (ls i) 1 = ls ((i + 1) % n)
  r0 : ∀ i, i < n → S.refB (ls i) 0 = false
  r1 : ∀ i, i < n → S.refB (ls i) 1 = true
  inj : ∀ i j, i < n → j < n → ls i = ls j → i = j

theorem is_zero (S : Hp) : S.is 0 = false := by unfold Hp.is; simp

/-- The order behind k rounds. -/
def ringOd (n from_ : Nat) (ls : Nat → Int) (m : Nat) : List Int := (List.range m).map fun j => ls ((from_ + j) % n)
def ringOb (n from_ : Nat) (val : Nat → Int) (i : Nat) : Int × List Int := (0, [val ((from_ + i) % n), (((i + 1) % n : Nat) : Int)])

theorem mod_inj {n a i j : Nat} (hi : i < n) (hj : j < n) (h : (a + i) % n = (a + j) % n) : i = j := by
  have h1 := Nat.div_add_mod (a + i) n
  have h2 := Nat.div_add_mod (a + j) n
  rw [h] at h1
  generalize (a + i) / n = q1 at h1
  generalize (a + j) / n = q2 at h2
  rcases Nat.lt_trichotomy q1 q2 with hq | hq | hq
  · have h3 := Nat.mul_le_mul_left n (show q1 + 1 ≤ q2 from hq)
    rw [Nat.mul_add, Nat.mul_one] at h3
    omega
  · subst hq; omega
  · have h3 := Nat.mul_le_mul_left n (show q2 + 1 ≤ q1 from hq)
    rw [Nat.mul_add, Nat.mul_one] at h3
    omega

theorem ringOd_mem {n f : Nat} {ls : Nat → Int} {m : Nat} {S : Hp} {val : Nat → Int} (h : RingOk S n ls val) (hm : m ≤ n) (k : Nat) (hk : k < n) : ls ((f + k) % n) ∈ ringOd n f ls m ↔ k < m := by
  have hn : 0 < n := by omega
  unfold ringOd
  rw [List.mem_map]
  constructor
  · rintro ⟨j, hj, he⟩
    rw [List.mem_range] at hj
    have h1 := h.inj _ _ (Nat.mod_lt _ hn) (Nat.mod_lt _ hn) he
    have := mod_inj (by omega) hk h1
    omega
  · intro hkm
    exact ⟨k, List.mem_range.2 hkm, rfl⟩

theorem ringOd_idx {n f : Nat} {ls : Nat → Int} {m : Nat} {S : Hp} {val : Nat → Int} (h : RingOk S n ls val) (hm : m ≤ n) (k : Nat) (hk : k < m) : (ringOd n f ls m).idxOf (ls ((f + k) % n)) = k := by
  have hn : 0 < n := by omega
  have hnd : (ringOd n f ls m).Nodup := by
    unfold ringOd
    unfold List.Nodup
    rw [List.pairwise_map]
    refine List.Pairwise.imp_of_mem ?_ (List.pairwise_lt_range (n := m))
    intro x y hx hy hlt he
    rw [List.mem_range] at hx hy
    have := mod_inj (by omega) (by omega) (h.inj _ _ (Nat.mod_lt _ hn) (Nat.mod_lt _ hn) he)
    omega
  have hl : (ringOd n f ls m).length = m := by simp [ringOd]
  have hg : (ringOd n f ls m)[k]'(by omega) = ls ((f + k) % n) := by simp [ringOd]
  rw [← hg]
  exact hnd.idxOf_getElem k (by omega)

theorem ringOd_succ (n f : Nat) (ls : Nat → Int) (m : Nat) : ringOd n f ls (m + 1) = ringOd n f ls m ++ [ls ((f + m) % n)] := by
  simp [ringOd, List.range_succ]

theorem ring_out {S : Hp} {n f : Nat} {ls val : Nat → Int} (h : RingOk S n ls val) (hf : f < n) (k : Nat) (hk : k ≤ n) :
    S.outN k ([], [ls f]) = ((List.range k).map (ringOb n f val), ringOd n f ls (min (k + 1) n)) := by
  induction k with
  | zero =>
    have e : min (0 + 1) n = 1 := by omega
    rw [e]
    simp [Hp.outN, ringOd, Nat.mod_eq_of_lt hf]
  | succ k ih =>
    have ih' := ih (by omega)
    show S.outStep (S.outN k _) = _
    rw [ih']
    have e1 : min (k + 1) n = k + 1 := by omega
    rw [e1]
    have hl1 : ((List.range k).map (ringOb n f val)).length = k := by simp
    have hl2 : (ringOd n f ls (k + 1)).length = k + 1 := by simp [ringOd]
    have hkn := Nat.mod_lt (f + k) (show 0 < n by omega)
    have hgd : (ringOd n f ls (k + 1)).getD k 0 = ls ((f + k) % n) := by
      rw [List.getD_eq_getElem?_getD]
      simp [ringOd]
    unfold Hp.outStep
    simp only [hl1, hl2, hgd]
    rw [if_pos (by omega), h.cls _ hkn, h.num _ hkn]
    have e2 : (2 : Int).toNat = 0 + 1 + 1 := rfl
    rw [e2, vals_succ, vals_succ]
    have e3 : S.vals (ls ((f + k) % n)) (ringOd n f ls (k + 1)) 0 = ([], ringOd n f ls (k + 1)) := rfl
    rw [e3]
    unfold Hp.valStep
    have r0 := h.r0 _ hkn
    have r1 := h.r1 _ hkn
    rw [show ((0 : Nat) : Int) = 0 from rfl, show ((0 + 1 : Nat) : Int) = 1 from rfl, r0, r1]
    simp only [Bool.false_eq_true, if_false, if_true, List.nil_append]
    rw [h.v0 _ hkn, h.v1 _ hkn]
    have hnx : ls (((f + k) % n + 1) % n) = ls ((f + (k + 1)) % n) := by
      congr 1
      rw [Nat.mod_add_mod, Nat.add_assoc]
    rw [hnx]
    have hisx : S.is (ls ((f + (k + 1)) % n)) = true := h.is _ (Nat.mod_lt _ (by omega))
    unfold Hp.meetV Hp.meetO
    rw [if_pos hisx]
    by_cases hlast : k + 1 < n
    · have hnot : ls ((f + (k + 1)) % n) ∉ ringOd n f ls (k + 1) := by rw [ringOd_mem h (by omega) _ hlast]; omega
      rw [if_pos ⟨hisx, hnot⟩, List.idxOf_eq_length hnot, hl2]
      have e4 : min (k + 1 + 1) n = k + 1 + 1 := by omega
      rw [e4, ringOd_succ n f ls (k + 1), List.range_succ, List.map_append]
      simp [ringOb, Nat.mod_eq_of_lt hlast]
    · have hn : n = k + 1 := by omega
      have hin : ls ((f + (k + 1)) % n) ∈ ringOd n f ls (k + 1) := by
        have e5 : (f + (k + 1)) % n = (f + 0) % n := by rw [hn, Nat.add_mod_right]; rfl
        rw [e5, ringOd_mem h (by omega) 0 (by omega)]
        omega
      rw [if_neg (by intro hc; exact hc.2 hin)]
      have hidx : (ringOd n f ls (k + 1)).idxOf (ls ((f + (k + 1)) % n)) = 0 := by
        have e5 : (f + (k + 1)) % n = (f + 0) % n := by rw [hn, Nat.add_mod_right]; rfl
        rw [e5]
        exact ringOd_idx h (by omega) 0 (by omega)
      rw [hidx]
      have e4 : min (k + 1 + 1) n = k + 1 := by omega
      rw [e4, List.range_succ, List.map_append]
      have e6 : (k + 1) % n = 0 := by rw [hn]; exact Nat.mod_self _
      simp [ringOb, e6]

theorem ring_shape {S : Hp} {n f : Nat} {ls val : Nat → Int} (h : RingOk S n ls val) (hf : f < n) (hlen : n ≤ S.A.length) :
    S.shape [ls f, 0, ls f] = ((List.range n).map (ringOb n f val), [0, -1, 0]) := by
  have hr : S.roots [ls f, 0, ls f] = ([0, -1, 0], [ls f]) := by
    have h1 := h.is f hf
    have h2 := is_zero S
    simp [Hp.roots, Hp.rootStep, Hp.meetV, Hp.meetO, h1, h2]
  have ho := ring_out h hf n (Nat.le_refl _)
  have e : min (n + 1) n = n := by omega
  rw [e] at ho
  have hs : S.outN (S.A.length + 1) ([], [ls f]) = S.outN n ([], [ls f]) := outN_stay S _ n _ (by rw [ho]; simp [ringOd]) (by omega)
  unfold Hp.shape
  rw [hr]
  simp only
  rw [hs, ho]

end Go.Proofs.YtneeljhjfmcdoaaDoor

/-! HeapRing: the heap in its two loops, in plain Lean. -/
namespace Go.Proofs.YtneeljhjfmcdoaaDoor
open Go.RowKit

/-- Where the j-th object of the ring lies. -/
def ringL (j : Nat) : Int := if j % 3 = 0 then 1 + 4 * ((j / 3 : Nat) : Int) else 101 + 4 * (j : Int)

theorem ringL_inj (i j : Nat) (hi : i < 40) (hj : j < 40) (h : ringL i = ringL j) : i = j := by
  unfold ringL at h
  split at h <;> split at h <;> omega
theorem ringL_bd (i : Nat) (hi : i < 40) : 1 ≤ ringL i ∧ ringL i ≤ 261 := by
  unfold ringL
  split <;> omega

/-- The heap behind i rounds of the first loop. -/
structure RingA (S : Hp) (i : Nat) : Prop where
  now : S.now = 0
  cs : S.cs = [IR]
  yt : S.y.to = 100
  y : S.y.top = 4 * (((i + 2) / 3 : Nat) : Int)
  ot : S.h0.to = 1050
  o : S.h0.top = 100 + 4 * (i : Int)
  objs : ∀ j, j < i → S.is (ringL j) = true ∧ S.cls (ringL j) = 0 ∧ S.num (ringL j) = 2
  wide : S.Wide
  len : S.A.length = 2000

theorem ringA_new : RingA (Hp.new [IR] 2000 100) 0 := by
  refine ⟨rfl, rfl, rfl, rfl, rfl, rfl, by omega, wide_new _ _ _, by show (List.replicate _ _).length = 2000; rw [List.length_replicate]; rfl⟩

theorem want_IR (S : Hp) (h : S.cs = [IR]) : wantN S.cs 0 0 = 2 := by rw [h]; decide

/-- One object in space k (the nursery, the first half), whole. -/
theorem ring_lay {S : Hp} (hS : S.Ok) (hb : S.bg.length = (S.A.length + 63) / 64) (hcs : S.cs = [IR]) (hw : S.Wide) {k : Nat} (hk : k < 3) (hr : 4 ≤ (S.sp k).to - (S.sp k).top) :
    S.room k 0 0 = true ∧ S.layR k 0 0 = (S.sp k).top + 1 ∧ S.layK k 0 0 = S.laid k 0 4 ∧ Fits S k 0 4 ∧ (S.layK k 0 0).is (S.layR k 0 0) = true ∧ (S.layK k 0 0).cls (S.layR k 0 0) = 0 ∧ (S.layK k 0 0).num (S.layR k 0 0) = 2 ∧ (S.layK k 0 0).Wide := by
  have F := new_facts hS hb hk (c := 0) (n := 0) (by omega) (by rw [hcs]; simp) (by omega) (by omega) (by rw [want_IR S hcs]; omega)
  rw [want_IR S hcs] at F
  obtain ⟨f1, f2, f3, f4, f5, f6, f7, _⟩ := F
  exact ⟨f1, f2, f3, f4, f5, f6, f7, by rw [f3]; exact wide_laid hS hw f4⟩

/-- Behind an old object. -/
theorem ringA_old {S : Hp} {i : Nat} (h : RingA S i) (hS : S.Ok) (hb : S.bg.length = (S.A.length + 63) / 64) (hi : i < 40) :
    S.oldK = 1 ∧ S.room 1 0 0 = true ∧ S.layR 1 0 0 = 101 + 4 * (i : Int) ∧ (S.layK 1 0 0).now = 0 ∧ (S.layK 1 0 0).cs = [IR] ∧ (S.layK 1 0 0).y = S.y ∧ (S.layK 1 0 0).h0.to = 1050 ∧ (S.layK 1 0 0).h0.top = 100 + 4 * ((i + 1 : Nat) : Int) ∧
      (∀ j, j < i → (S.layK 1 0 0).is (ringL j) = true ∧ (S.layK 1 0 0).cls (ringL j) = 0 ∧ (S.layK 1 0 0).num (ringL j) = 2) ∧ ((S.layK 1 0 0).is (101 + 4 * (i : Int)) = true ∧ (S.layK 1 0 0).cls (101 + 4 * (i : Int)) = 0 ∧ (S.layK 1 0 0).num (101 + 4 * (i : Int)) = 2) ∧
      (S.layK 1 0 0).Wide ∧ (S.layK 1 0 0).A.length = 2000 := by
  have e1 : S.sp 1 = S.h0 := rfl
  obtain ⟨f1, f2, f3, f4, f5, f6, f7, f8⟩ := ring_lay hS hb h.cs h.wide (k := 1) (by omega) (by rw [e1, h.ot, h.o]; omega)
  have eR : S.layR 1 0 0 = 101 + 4 * (i : Int) := by rw [f2, e1, h.o]; omega
  rw [eR] at f5 f6 f7
  have hsp := laid_sp S 1 1 0 4 (by omega) (by omega)
  rw [if_pos rfl] at hsp
  have hsy := laid_sp S 1 0 0 4 (by omega) (by omega)
  rw [if_neg (by omega)] at hsy
  refine ⟨by unfold Hp.oldK; rw [if_pos h.now], f1, eR, by rw [f3, laid_now]; exact h.now, by rw [f3, laid_cs]; exact h.cs, by rw [f3]; exact hsy, ?_, ?_, ?_, ⟨f5, f6, f7⟩, f8, by rw [f3, laid_len]; exact h.len⟩
  · rw [f3]
    have e : (S.laid 1 0 4).h0 = _ := hsp
    rw [e]; exact h.ot
  · rw [f3]
    have e : (S.laid 1 0 4).h0 = _ := hsp
    rw [e]
    show S.h0.top + 4 = _
    rw [h.o]; omega
  · intro j hj
    obtain ⟨o1, o2, o3⟩ := h.objs j hj
    rw [f3]
    have := laid_cls_old hS f4 o1
    exact ⟨laid_is_old hS f4 hb o1, by rw [this.1]; exact o2, by rw [this.2]; exact o3⟩

/-- Behind the round: no young one. -/
theorem ringA_step1 {S : Hp} {i : Nat} (h : RingA S i) (hS : S.Ok) (hb : S.bg.length = (S.A.length + 63) / 64) (hi : i < 40) (h3 : i % 3 ≠ 0) : RingA (S.layK 1 0 0) (i + 1) ∧ ringL i = 101 + 4 * (i : Int) := by
  obtain ⟨_, _, _, g1, g2, g3, g4, g5, g6, g7, g8, g9⟩ := ringA_old h hS hb hi
  have eL : ringL i = 101 + 4 * (i : Int) := by unfold ringL; rw [if_neg h3]
  refine ⟨⟨g1, g2, by rw [g3]; exact h.yt, by rw [g3, h.y]; omega, g4, g5, ?_, g8, g9⟩, eL⟩
  intro j hj
  by_cases hji : j = i
  · subst hji; rw [eL]; exact g7
  · exact g6 j (by omega)

/-- Behind the round: a young one, too. -/
theorem ringA_step2 {S : Hp} {i : Nat} (h : RingA S i) (hS : S.Ok) (hb : S.bg.length = (S.A.length + 63) / 64) (hi : i < 40) (h3 : i % 3 = 0) (hS1 : (S.layK 1 0 0).Ok) (hb1 : (S.layK 1 0 0).bg.length = ((S.layK 1 0 0).A.length + 63) / 64) :
    (S.layK 1 0 0).room 0 0 0 = true ∧ (S.layK 1 0 0).layR 0 0 0 = ringL i ∧ RingA ((S.layK 1 0 0).layK 0 0 0) (i + 1) := by
  obtain ⟨_, _, _, g1, g2, g3, g4, g5, g6, g7, g8, g9⟩ := ringA_old h hS hb hi
  generalize S.layK 1 0 0 = T at *
  have e0 : T.sp 0 = T.y := rfl
  have hy : T.y.top = 4 * (((i + 2) / 3 : Nat) : Int) := by rw [g3]; exact h.y
  have hyt : T.y.to = 100 := by rw [g3]; exact h.yt
  obtain ⟨f1, f2, f3, f4, f5, f6, f7, f8⟩ := ring_lay hS1 hb1 g2 g8 (k := 0) (by omega) (by rw [e0, hyt, hy]; omega)
  have eL : ringL i = 1 + 4 * ((i / 3 : Nat) : Int) := by unfold ringL; rw [if_pos h3]
  have eR : T.layR 0 0 0 = ringL i := by rw [f2, e0, hy, eL]; omega
  rw [eR] at f5 f6 f7
  have hsp := laid_sp T 0 0 0 4 (by omega) (by omega)
  rw [if_pos rfl] at hsp
  have hs1 := laid_sp T 0 1 0 4 (by omega) (by omega)
  rw [if_neg (by omega)] at hs1
  have ey : (T.laid 0 0 4).y = { T.sp 0 with top := (T.sp 0).top + 4 } := hsp
  have eh : (T.laid 0 0 4).h0 = T.h0 := hs1
  refine ⟨f1, eR, ?_⟩
  rw [f3] at f5 f6 f7 f8 ⊢
  refine ⟨by rw [laid_now]; exact g1, by rw [laid_cs]; exact g2, by rw [ey]; exact hyt, ?_, by rw [eh]; exact g4, by rw [eh]; exact g5, ?_, f8, by rw [laid_len]; exact g9⟩
  · rw [ey]
    show T.y.top + 4 = _
    rw [hy]; omega
  · intro j hj
    by_cases hji : j = i
    · subst hji; exact ⟨f5, f6, f7⟩
    · obtain ⟨o1, o2, o3⟩ := g6 j (by omega)
      have := laid_cls_old hS1 f4 o1
      exact ⟨laid_is_old hS1 f4 hb1 o1, by rw [this.1]; exact o2, by rw [this.2]; exact o3⟩

/-- The heap behind i rounds of the second loop, the ring n long. -/
structure RingB (S : Hp) (n i : Nat) (v : Int) : Prop where
  cs : S.cs = [IR]
  objs : ∀ j, j < n → S.is (ringL j) = true ∧ S.cls (ringL j) = 0 ∧ S.num (ringL j) = 2
  v0 : ∀ j, j < i → S.get (ringL j) 0 = IntKind.i64.wrap (v + (j : Int))
  v1 : ∀ j, j < i → S.get (ringL j) 1 = ringL ((j + 1) % n)
  wide : S.Wide
  len : S.A.length = 2000

theorem RingA.b {S : Hp} {n : Nat} (h : RingA S n) (v : Int) : RingB S n 0 v := ⟨h.cs, h.objs, by omega, by omega, h.wide, h.len⟩

theorem ring_ref {S : Hp} {n i : Nat} {v : Int} (h : RingB S n i v) (j : Nat) (hj : j < n) : S.refB (ringL j) 0 = false ∧ S.refB (ringL j) 1 = true := by
  obtain ⟨o1, o2, o3⟩ := h.objs j hj
  unfold Hp.refB
  rw [o1, o2, o3, h.cs]
  constructor <;> decide

theorem wrap_bd (x : Int) : -9223372036854775808 ≤ IntKind.i64.wrap x ∧ IntKind.i64.wrap x ≤ 9223372036854775807 := by
  rw [IntKind.wrap_i64]
  omega

theorem put_ok {S : Hp} (hS : S.Ok) {r i v : Int} (hm : S.mayRaw r i v = true) : (S.put r i v).Ok := by
  obtain ⟨h0, h1, h2⟩ := mayRaw_at hm
  unfold Hp.put
  split
  · exact (raw_ok hS h0 h1 h2).mark _
  · exact raw_ok hS h0 h1 h2

theorem ringB_may {S : Hp} {n i : Nat} {v : Int} (h : RingB S n i v) (hi : i < n) (x : Int) : S.mayRaw (ringL i) 0 x = true := by
  obtain ⟨o1, o2, o3⟩ := h.objs i hi
  obtain ⟨r0, r1⟩ := ring_ref h i hi
  unfold Hp.mayRaw
  rw [o1, o3, r0]; simp

/-- One round: both values are put. -/
theorem ringB_step {S : Hp} {n i : Nat} {v : Int} (h : RingB S n i v) (hS : S.Ok) (hi : i < n) (hn : n ≤ 40) (hS1 : (S.put (ringL i) 0 (IntKind.i64.wrap (v + (i : Int)))).Ok) :
    S.mayRaw (ringL i) 0 (IntKind.i64.wrap (v + (i : Int))) = true ∧ (S.put (ringL i) 0 (IntKind.i64.wrap (v + (i : Int)))).mayRaw (ringL i) 1 (ringL ((i + 1) % n)) = true ∧
      RingB ((S.put (ringL i) 0 (IntKind.i64.wrap (v + (i : Int)))).put (ringL i) 1 (ringL ((i + 1) % n))) n (i + 1) v := by
  obtain ⟨o1, o2, o3⟩ := h.objs i hi
  obtain ⟨r0, r1⟩ := ring_ref h i hi
  have hm : (i + 1) % n < n := Nat.mod_lt _ (by omega)
  have hlb := ringL_bd ((i + 1) % n) (by omega)
  have m1 : S.mayRaw (ringL i) 0 (IntKind.i64.wrap (v + (i : Int))) = true := by
    unfold Hp.mayRaw
    rw [o1, o3, r0]; simp
  have hxb := wrap_bd (v + (i : Int))
  obtain ⟨x, hx⟩ : ∃ x, x = IntKind.i64.wrap (v + (i : Int)) := ⟨_, rfl⟩
  rw [← hx] at m1 hxb hS1 ⊢
  have P : ∀ j, j < n → (S.put (ringL i) 0 x).is (ringL j) = true ∧ (S.put (ringL i) 0 x).cls (ringL j) = 0 ∧ (S.put (ringL i) 0 x).num (ringL j) = 2 := fun j hj => by
    obtain ⟨q1, q2, q3⟩ := h.objs j hj
    have := put_cls hS m1 (ringL j) q1
    exact ⟨by rw [put_is]; exact q1, by rw [this.1]; exact q2, by rw [this.2]; exact q3⟩
  have PR := fun q j => put_refB hS m1 q j
  obtain ⟨p1, p2, p3⟩ := P i hi
  have m2 : (S.put (ringL i) 0 x).mayRaw (ringL i) 1 (ringL ((i + 1) % n)) = true := by
    unfold Hp.mayRaw
    rw [p1, p3, PR, r1, (P _ hm).1, decide_eq_true (show 1 ≤ ringL ((i + 1) % n) ∧ ringL ((i + 1) % n) ≤ 65536 by omega)]
    simp
  have hwp := wide_put h.wide hS m1 hxb
  refine ⟨m1, m2, ⟨by rw [put_cs, put_cs]; exact h.cs, ?_, ?_, ?_, wide_put hwp hS1 m2 (by omega), by rw [put_lenA, put_lenA]; exact h.len⟩⟩
  · intro j hj
    obtain ⟨q1, q2, q3⟩ := P j hj
    have := put_cls hS1 m2 (ringL j) q1
    exact ⟨by rw [put_is]; exact q1, by rw [this.1]; exact q2, by rw [this.2]; exact q3⟩
  · intro j hj
    obtain ⟨q1, q2, q3⟩ := P j (by omega)
    obtain ⟨t1, t2, t3⟩ := h.objs j (by omega)
    rw [put_get hS1 m2 _ _ q1 (by omega) (by rw [q3]; omega), if_neg (by omega), put_get hS m1 _ _ t1 (by omega) (by rw [t3]; omega)]
    by_cases hji : j = i
    · subst hji
      rw [if_pos ⟨rfl, rfl⟩, hx]
    · rw [if_neg (by intro hc; exact hji (ringL_inj j i (by omega) (by omega) hc.1))]
      exact h.v0 j (by omega)
  · intro j hj
    obtain ⟨q1, q2, q3⟩ := P j (by omega)
    obtain ⟨t1, t2, t3⟩ := h.objs j (by omega)
    rw [put_get hS1 m2 _ _ q1 (by omega) (by rw [q3]; omega)]
    by_cases hji : j = i
    · subst hji
      rw [if_pos ⟨rfl, rfl⟩]
    · rw [if_neg (by intro hc; exact hji (ringL_inj j i (by omega) (by omega) hc.1)), put_get hS m1 _ _ t1 (by omega) (by rw [t3]; omega), if_neg (by omega)]
      exact h.v1 j (by omega)

/-- Behind both loops it is a ring. -/
theorem RingB.ok {S : Hp} {n : Nat} {v : Int} (h : RingB S n n v) (hn : n ≤ 40) : RingOk S n ringL (fun j => IntKind.i64.wrap (v + (j : Int))) :=
  ⟨fun i hi => (h.objs i hi).1, fun i hi => (h.objs i hi).2.1, fun i hi => (h.objs i hi).2.2, h.v0, h.v1, fun i hi => (ring_ref h i hi).1, fun i hi => (ring_ref h i hi).2, fun i j hi hj => ringL_inj i j (by omega) (by omega)⟩

end Go.Proofs.YtneeljhjfmcdoaaDoor
