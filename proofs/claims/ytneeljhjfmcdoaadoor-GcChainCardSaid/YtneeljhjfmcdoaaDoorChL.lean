/- GcChain: the heap in its loop, and what both collections leave, in plain Lean. -/
import Derived.Test.YtneeljhjfmcdoaaDoorGcL
import Derived.Test.YtneeljhjfmcdoaaDoorMake
import Derived.Test.YtneeljhjfmcdoaaDoorRing
namespace Go.Proofs.YtneeljhjfmcdoaaDoor
open Go.RowKit

/-- Where the j-th object of the chain lies. -/
def chL (j : Nat) : Int := if j = 0 then 201 else 8 * (j : Int) - 7
theorem chL_inj (i j : Nat) (hi : i < 20) (hj : j < 20) (h : chL i = chL j) : i = j := by
  unfold chL at h
  split at h <;> split at h <;> omega
theorem chL_bd (i : Nat) (hi : i < 20) : 1 ≤ chL i ∧ chL i ≤ 201 := by
  unfold chL
  split <;> omega
theorem chL_succ (i : Nat) : chL (i + 1) = 8 * (i : Int) + 1 := by
  unfold chL
  rw [if_neg (by omega)]
  omega

/-- The heap with m objects behind the root, k of the chain's links, the nursery filled up to t. -/
structure ChA (S : Hp) (m : Nat) (t : Int) (k : Nat) : Prop where
  now : S.now = 0
  cs : S.cs = [IR]
  bnd : S.bnd = [0, 200, 200, 600, 600, 1000]
  t : S.y.top = t
  o : S.h0.top = 204
  objs : ∀ j, j ≤ m → S.is (chL j) = true ∧ S.cls (chL j) = 0 ∧ S.num (chL j) = 2
  ln : ∀ j, j ≤ m → S.get (chL j) 1 = if j < k then chL (j + 1) else 0
  len : S.A.length = 1000

theorem ChA.b {S : Hp} {m : Nat} {t : Int} {k : Nat} (h : ChA S m t k) : S.y.fr = 0 ∧ S.y.to = 200 ∧ S.h0.fr = 200 ∧ S.h0.to = 600 ∧ S.h1.fr = 600 ∧ S.h1.to = 1000 := by
  have := h.bnd
  unfold Hp.bnd at this
  simpa using this

/-- The first object: an old one. -/
theorem ch_old (hS : (Hp.new [IR] 1000 200).Ok) (hb : (Hp.new [IR] 1000 200).bg.length = ((Hp.new [IR] 1000 200).A.length + 63) / 64) :
    (Hp.new [IR] 1000 200).oldK = 1 ∧ (Hp.new [IR] 1000 200).room 1 0 0 = true ∧ (Hp.new [IR] 1000 200).layR 1 0 0 = 201 ∧ ChA ((Hp.new [IR] 1000 200).layK 1 0 0) 0 0 0 := by
  have hw := wide_new [IR] 1000 200
  have e0 : (Hp.new [IR] 1000 200).y = ⟨0, 200, 0⟩ := rfl
  have e1 : (Hp.new [IR] 1000 200).sp 1 = ⟨200, 600, 200⟩ := rfl
  have en : (Hp.new [IR] 1000 200).now = 0 := rfl
  have ec : (Hp.new [IR] 1000 200).cs = [IR] := rfl
  have eb : (Hp.new [IR] 1000 200).bnd = [0, 200, 200, 600, 600, 1000] := rfl
  have el : (Hp.new [IR] 1000 200).A.length = 1000 := by show (List.replicate _ _).length = 1000; rw [List.length_replicate]; rfl
  have eo : (Hp.new [IR] 1000 200).oldK = 1 := by unfold Hp.oldK; rw [if_pos en]
  generalize Hp.new [IR] 1000 200 = S at *
  obtain ⟨f1, f2, f3, f4, f5, f6, f7, f8⟩ := ring_lay hS hb ec hw (k := 1) (by omega) (by rw [e1]; decide)
  have eR : S.layR 1 0 0 = 201 := by rw [f2, e1]; rfl
  have hsp := laid_sp S 1 1 0 4 (by omega) (by omega)
  rw [if_pos rfl, e1] at hsp
  have hsy := laid_sp S 1 0 0 4 (by omega) (by omega)
  rw [if_neg (by omega)] at hsy
  have c0 : chL 0 = 201 := rfl
  refine ⟨eo, f1, eR, ⟨by rw [f3, laid_now]; exact en, by rw [f3, laid_cs]; exact ec, by rw [layK_bnd (by omega)]; exact eb, ?_, ?_, ?_, ?_, by rw [f3, laid_len]; exact el⟩⟩
  · rw [f3, show (S.laid 1 0 4).y = S.y from hsy, e0]
  · rw [f3, show (S.laid 1 0 4).h0 = _ from hsp]
    rfl
  · intro j hj
    obtain rfl : j = 0 := by omega
    rw [c0, ← eR]
    exact ⟨f5, f6, f7⟩
  · intro j hj
    obtain rfl : j = 0 := by omega
    rw [c0, ← eR, f2, f3, if_neg (by omega)]
    exact laid_get_new hS f4 (by omega) (by omega)

/-- A young one. -/
theorem ch_young {S : Hp} {m : Nat} {t : Int} {k : Nat} (h : ChA S m t k) (hS : S.Ok) (hb : S.bg.length = (S.A.length + 63) / 64) (hw : S.Wide) (ht : t + 4 ≤ 200) (hk : k ≤ m) :
    S.room 0 0 0 = true ∧ S.layR 0 0 0 = t + 1 ∧ ChA (S.layK 0 0 0) m (t + 4) k ∧ (chL (m + 1) = t + 1 → ChA (S.layK 0 0 0) (m + 1) (t + 4) k) := by
  obtain ⟨b1, b2, b3, b4, b5, b6⟩ := h.b
  have e0 : S.sp 0 = S.y := rfl
  obtain ⟨f1, f2, f3, f4, f5, f6, f7, f8⟩ := ring_lay hS hb h.cs hw (k := 0) (by omega) (by rw [e0, b2, h.t]; omega)
  have eR : S.layR 0 0 0 = t + 1 := by rw [f2, e0, h.t]
  rw [eR] at f5 f6 f7
  have hsp := laid_sp S 0 0 0 4 (by omega) (by omega)
  rw [if_pos rfl, e0] at hsp
  have hs1 := laid_sp S 0 1 0 4 (by omega) (by omega)
  rw [if_neg (by omega)] at hs1
  have g7 : (S.layK 0 0 0).get (t + 1) 1 = 0 := by
    rw [← eR, f2, f3]
    exact laid_get_new hS f4 (by omega) (by omega)
  have A : ChA (S.layK 0 0 0) m (t + 4) k := by
    refine ⟨by rw [f3, laid_now]; exact h.now, by rw [f3, laid_cs]; exact h.cs, by rw [layK_bnd (by omega)]; exact h.bnd, ?_, ?_, ?_, ?_, by rw [f3, laid_len]; exact h.len⟩
    · rw [f3, show (S.laid 0 0 4).y = _ from hsp]
      show S.y.top + 4 = _
      rw [h.t]
    · rw [f3, show (S.laid 0 0 4).h0 = S.h0 from hs1]
      exact h.o
    · intro j hj
      obtain ⟨o1, o2, o3⟩ := h.objs j hj
      rw [f3]
      have := laid_cls_old hS f4 o1
      exact ⟨laid_is_old hS f4 hb o1, by rw [this.1]; exact o2, by rw [this.2]; exact o3⟩
    · intro j hj
      obtain ⟨o1, o2, o3⟩ := h.objs j hj
      rw [f3, laid_get_old hS f4 o1 (by omega) (by rw [o3]; omega)]
      exact h.ln j hj
  refine ⟨f1, eR, A, fun he => ⟨A.now, A.cs, A.bnd, A.t, A.o, fun j hj => ?_, fun j hj => ?_, A.len⟩⟩
  · by_cases hjm : j = m + 1
    · rw [hjm, he]; exact ⟨f5, f6, f7⟩
    · exact A.objs j (by omega)
  · by_cases hjm : j = m + 1
    · rw [hjm, he, if_neg (by omega)]; exact g7
    · exact A.ln j (by omega)

theorem ch_ref {S : Hp} {m : Nat} {t : Int} {k : Nat} (h : ChA S m t k) (j : Nat) (hj : j ≤ m) : S.refB (chL j) 0 = false ∧ S.refB (chL j) 1 = true := by
  obtain ⟨o1, o2, o3⟩ := h.objs j hj
  unfold Hp.refB
  rw [o1, o2, o3, h.cs]
  constructor <;> decide

/-- A value is put. -/
theorem ch_put0 {S : Hp} {m : Nat} {t : Int} {k : Nat} (h : ChA S m t k) (hS : S.Ok) (i : Nat) (hi : i ≤ m) (x : Int) :
    S.mayRaw (chL i) 0 x = true ∧ ChA (S.put (chL i) 0 x) m t k := by
  obtain ⟨o1, o2, o3⟩ := h.objs i hi
  have m1 : S.mayRaw (chL i) 0 x = true := by
    unfold Hp.mayRaw
    rw [o1, o3, (ch_ref h i hi).1]; simp
  refine ⟨m1, ⟨by rw [put_now]; exact h.now, by rw [put_cs]; exact h.cs, by rw [put_bnd]; exact h.bnd, by rw [put_y]; exact h.t, by rw [put_h0]; exact h.o, fun j hj => ?_, fun j hj => ?_, by rw [put_lenA]; exact h.len⟩⟩
  · obtain ⟨q1, q2, q3⟩ := h.objs j hj
    have := put_cls hS m1 (chL j) q1
    exact ⟨by rw [put_is]; exact q1, by rw [this.1]; exact q2, by rw [this.2]; exact q3⟩
  · obtain ⟨q1, q2, q3⟩ := h.objs j hj
    rw [put_get hS m1 _ _ q1 (by omega) (by rw [q3]; omega), if_neg (by omega)]
    exact h.ln j hj
/-- A link is put. -/
theorem ch_put1 {S : Hp} {m : Nat} {t : Int} {k : Nat} (h : ChA S m t k) (hS : S.Ok) (hk : k + 1 ≤ m) (hm : m < 19) :
    S.mayRaw (chL k) 1 (chL (k + 1)) = true ∧ ChA (S.put (chL k) 1 (chL (k + 1))) m t (k + 1) := by
  obtain ⟨o1, o2, o3⟩ := h.objs k (by omega)
  have hb := chL_bd (k + 1) (by omega)
  have m1 : S.mayRaw (chL k) 1 (chL (k + 1)) = true := by
    unfold Hp.mayRaw
    rw [o1, o3, (ch_ref h k (by omega)).2, (h.objs (k + 1) hk).1, decide_eq_true (show 1 ≤ chL (k + 1) ∧ chL (k + 1) ≤ 65536 by omega)]
    simp
  refine ⟨m1, ⟨by rw [put_now]; exact h.now, by rw [put_cs]; exact h.cs, by rw [put_bnd]; exact h.bnd, by rw [put_y]; exact h.t, by rw [put_h0]; exact h.o, fun j hj => ?_, fun j hj => ?_, by rw [put_lenA]; exact h.len⟩⟩
  · obtain ⟨q1, q2, q3⟩ := h.objs j hj
    have := put_cls hS m1 (chL j) q1
    exact ⟨by rw [put_is]; exact q1, by rw [this.1]; exact q2, by rw [this.2]; exact q3⟩
  · obtain ⟨q1, q2, q3⟩ := h.objs j hj
    rw [put_get hS m1 _ _ q1 (by omega) (by rw [q3]; omega)]
    by_cases hjk : j = k
    · subst hjk
      rw [if_pos ⟨rfl, rfl⟩, if_pos (by omega)]
    · rw [if_neg (fun hc => hjk (chL_inj j k (by omega) (by omega) hc.1)), h.ln j hj]
      by_cases hlt : j < k
      · rw [if_pos hlt, if_pos (by omega)]
      · rw [if_neg hlt, if_neg (by omega)]

/-- The whole chain can be reached, and nothing else. -/
theorem ch_reach {S : Hp} {n : Nat} {t : Int} (h : ChA S n t n) (hS : S.Ok) (hn : n < 19) : (S.reach [201]).Perm ((List.range (n + 1)).map chL) := by
  have hnd : ((List.range (n + 1)).map chL).Nodup := by
    unfold List.Nodup
    rw [List.pairwise_map]
    refine List.Pairwise.imp_of_mem ?_ (List.pairwise_lt_range (n := n + 1))
    intro x y hx hy hlt he
    rw [List.mem_range] at hx hy
    have := chL_inj x y (by omega) (by omega) he
    omega
  refine (List.perm_ext_iff_of_nodup (reach_inN hS [201]).1 hnd).2 (fun a => ⟨fun ha => ?_, fun ha => ?_⟩)
  · refine reach_all (P := fun a => a ∈ (List.range (n + 1)).map chL) (fun r hr _ => ?_) (fun a ha j hj hb hi => ?_) a ha
    · obtain rfl : r = 201 := by simpa using hr
      exact List.mem_map.2 ⟨0, List.mem_range.2 (by omega), rfl⟩
    · obtain ⟨i, hi2, rfl⟩ := List.mem_map.1 ha
      rw [List.mem_range] at hi2
      obtain ⟨o1, o2, o3⟩ := h.objs i (by omega)
      rw [o3] at hj
      have hj2 : j = 0 ∨ j = 1 := by omega
      rcases hj2 with rfl | rfl
      · rw [show ((0 : Nat) : Int) = 0 from rfl, (ch_ref h i (by omega)).1] at hb
        cases hb
      · rw [show ((1 : Nat) : Int) = 1 from rfl, h.ln i (by omega)] at hi ⊢
        by_cases hin : i < n
        · rw [if_pos hin]
          exact List.mem_map.2 ⟨i + 1, List.mem_range.2 (by omega), rfl⟩
        · rw [if_neg hin, is_zero] at hi
          cases hi
  · obtain ⟨i, hi2, rfl⟩ := List.mem_map.1 ha
    rw [List.mem_range] at hi2
    clear ha
    induction i with
    | zero => exact reach_root (by simp [chL]) (h.objs 0 (by omega)).1
    | succ i ih =>
      have ih := ih (by omega)
      have h1 := h.ln i (by omega)
      rw [if_pos (by omega)] at h1
      have := reach_closed hS ih 1 (by rw [(h.objs i (by omega)).2.2]; omega) (ch_ref h i (by omega)).2 (by
        show S.is (S.get (chL i) 1) = true
        rw [h1]; exact (h.objs (i + 1) (by omega)).1)
      have e : S.get (chL i) ((1 : Nat) : Int) = chL (i + 1) := h1
      rwa [e] at this

theorem sumW_const {S : Hp} {c : Int} : ∀ {l : List Int}, (∀ a ∈ l, S.wd a = c) → sumW S l = c * (l.length : Int)
  | [], _ => by simp [sumW]
  | a :: t, h => by
    have ih := sumW_const (fun b hb => h b (List.mem_cons_of_mem _ hb))
    simp only [sumW, ih, h a (by simp), List.length_cons]
    rw [show ((t.length + 1 : Nat) : Int) = (t.length : Int) + 1 by omega, Int.mul_add, Int.mul_one]
    omega

/-- Its shape: so many objects, so many words. -/
theorem ch_shape {S : Hp} {n : Nat} {t : Int} (h : ChA S n t n) (hS : S.Ok) (hn : n < 19) : (S.shape [201]).1.length = n + 1 ∧ wordsO (S.shape [201]).1 = 4 * ((n + 1 : Nat) : Int) := by
  have hp := ch_reach h hS hn
  constructor
  · rw [reach_len hS, hp.length_eq, List.length_map, List.length_range]
  · rw [words_reach hS, sumW_perm S hp, sumW_const (c := 4) (fun a ha => ?_), List.length_map, List.length_range]
    obtain ⟨i, hi, rfl⟩ := List.mem_map.1 ha
    rw [List.mem_range] at hi
    unfold Hp.wd
    rw [(h.objs i (by omega)).2.2]
    omega

/-- The minor collection has room. -/
theorem ch_minor {S : Hp} {n : Nat} {t : Int} (h : ChA S n t n) (ht : t ≤ 200) : S.asks false [201] ≤ S.gives false := by
  obtain ⟨b1, b2, b3, b4, b5, b6⟩ := h.b
  have e : S.oldK = 1 := by unfold Hp.oldK; rw [if_pos h.now]
  unfold Hp.asks Hp.gives
  rw [if_neg (by simp), if_neg (by simp), e]
  show S.y.top - S.y.fr ≤ S.h0.to - S.h0.top
  rw [h.t, b1, b4, h.o]
  omega

/-- Behind the minor collection. -/
structure ChB (S : Hp) (root : Int) (os : List (Int × List Int)) : Prop where
  now : S.now = 0
  bnd : S.bnd = [0, 200, 200, 600, 600, 1000]
  shape : S.shape [root] = (os, [0])
  is : S.is root = true

theorem ch_left {S : Hp} {n : Nat} {t : Int} (h : ChA S n t n) (hI : S.Inv) {sc : Int → Nat → Bool} {M : Mv} {bg : List Nat} (hd : Done S false [201] sc M bg) :
    ChB (S.left false M bg) (fwL M.mv 201) (S.shape [201]).1 := by
  have hi := (h.objs 0 (by omega)).1
  rw [show chL 0 = 201 from rfl] at hi
  have hs := done_shape hI (mr := List.replicate ((S.A.length + 63) / 64) 0) hd (fun r hr => by
    obtain rfl : r = 201 := by simpa using hr
    exact .inr hi)
  have h2 : (S.shape [201]).2 = [0] := by
    unfold Hp.shape Hp.roots
    simp [Hp.rootStep, Hp.meetV, hi]
  have hr := done_root (mr := List.replicate ((S.A.length + 63) / 64) 0) hd (fun r hr => by
    obtain rfl : r = 201 := by simpa using hr
    exact .inr hi)
  refine ⟨h.now, ?_, ?_, ?_⟩
  · unfold Hp.left
    rw [after_bnd]
    exact h.bnd
  · unfold Hp.left
    have e : [fwL M.mv 201] = [201].map (fwL M.mv) := rfl
    rw [e, hs, ← h2]
  · rcases hr (fwL M.mv 201) (by simp) with h0 | h0
    · exfalso
      have e : [fwL M.mv 201] = [201].map (fwL M.mv) := rfl
      rw [← e, h0] at hs
      have h3 : (((S.cx false).after M bg (List.replicate ((S.A.length + 63) / 64) 0)).shape [0]).2 = [-1] := by
        unfold Hp.shape Hp.roots
        simp [Hp.rootStep, Hp.meetV, is_zero]
      rw [hs, h2] at h3
      simp at h3
    · exact h0

theorem shape_nil (S : Hp) : S.shape [] = ([], []) := by
  have : S.outN (S.A.length + 1) ([], []) = ([], []) := by
    generalize S.A.length + 1 = k
    induction k with
    | zero => rfl
    | succ k ih =>
      show S.outStep (S.outN k ([], [])) = _
      rw [ih]
      rfl
  unfold Hp.shape Hp.roots
  simp only [List.foldl_nil]
  rw [this]

/-- The major collection: it has room, and leaves just so many words. -/
theorem chB_words {S : Hp} {root : Int} {os : List (Int × List Int)} (h : ChB S root os) (hS : S.Ok) (drop : Bool) : sumW S (S.reach (if drop = true then [] else [root])) = if drop = true then 0 else wordsO os := by
  rw [← words_reach hS]
  cases drop with
  | true => rw [if_pos rfl, if_pos rfl, shape_nil]; rfl
  | false => rw [if_neg (by simp), if_neg (by simp), h.shape]
theorem chB_room {S : Hp} {root : Int} {os : List (Int × List Int)} (h : ChB S root os) (hS : S.Ok) (drop : Bool) (hw : wordsO os ≤ 400) : S.asks true (if drop = true then [] else [root]) ≤ S.gives true := by
  have hb := h.bnd
  unfold Hp.bnd at hb
  simp only [List.cons.injEq, and_true] at hb
  obtain ⟨b1, b2, b3, b4, b5, b6⟩ := hb
  have e : S.oldK = 1 := by unfold Hp.oldK; rw [if_pos h.now]
  unfold Hp.asks Hp.gives
  rw [if_pos rfl, if_pos rfl, e, chB_words h hS]
  show _ ≤ S.h1.to - S.h1.fr
  rw [b5, b6]
  split <;> omega
theorem chB_used {S : Hp} {root : Int} {os : List (Int × List Int)} (h : ChB S root os) (hS : S.Ok) (hI : S.Inv) (drop : Bool) {sc : Int → Nat → Bool} {M : Mv} {bg : List Nat} (hd : Done S true (if drop = true then [] else [root]) sc M bg) :
    (S.left true M bg).h0.to - (S.left true M bg).h0.fr = 400 ∧ (S.left true M bg).old.to - (S.left true M bg).old.top = 400 - (if drop = true then 0 else wordsO os) := by
  have hb := h.bnd
  unfold Hp.bnd at hb
  simp only [List.cons.injEq, and_true] at hb
  obtain ⟨b1, b2, b3, b4, b5, b6⟩ := hb
  have e : S.oldK = 1 := by unfold Hp.oldK; rw [if_pos h.now]
  obtain ⟨t1, t2, t3⟩ := done_top hS hI (mr := List.replicate ((S.A.length + 63) / 64) 0) hd
  have hbl : (S.left true M bg).bnd = [0, 200, 200, 600, 600, 1000] := by unfold Hp.left; rw [after_bnd]; exact h.bnd
  unfold Hp.bnd at hbl
  simp only [List.cons.injEq, and_true] at hbl
  rw [e, chB_words h hS] at *
  have s2 : S.sp (3 - 1) = S.h1 := rfl
  rw [s2] at t2 t3
  refine ⟨by omega, ?_⟩
  show ((S.cx true).after M bg (List.replicate ((S.A.length + 63) / 64) 0)).old.to - ((S.cx true).after M bg (List.replicate ((S.A.length + 63) / 64) 0)).old.top = _
  omega
end Go.Proofs.YtneeljhjfmcdoaaDoor
