/- HeapShapes: what holds in the midst of the law's loop, in plain Lean. HeapShapes: the mirror's new values, row by row. No program in sight. -/
import Derived.Test.YtneeljhjfmcdoaaDoorTwin
/-! HeapShapes: what holds in the midst of the law's loop, in plain Lean. -/
namespace Go.Proofs.YtneeljhjfmcdoaaDoor
open Go.RowKit

/-- The heap, the mirror and the references behind i rounds. -/
structure ShS (cs : List ByteArray) (S : Hp) (os : List (Int × List Int)) (rs : List Int) (i : Nat) : Prop where
  twin : Twin S rs os
  csE : S.cs = cs
  lenA : S.A.length = 20000
  now : S.now = 0
  yto : S.y.to = 6000
  oto : S.h0.to = 13000
  ytop : S.y.top ≤ 20 * (i : Int)
  otop : S.h0.top ≤ 6000 + 20 * (i : Int)
  wide : S.Wide
  few : rs.length ≤ i
  cl : ∀ o ∈ os, o.2.length ≤ 10 ∧ o.1 < cs.length ∧ (0 ≤ o.1 → o.2.length = (cs.getD o.1.toNat ByteArray.empty).size)

theorem ShS.start (cs : List ByteArray) : ShS cs (Hp.new cs 20000 6000) [] [] 0 :=
  ⟨Twin.nil _, rfl, List.length_replicate, rfl, rfl, rfl, Int.le_refl _, Int.le_refl _, wide_new _ _ _, Nat.le_refl _, fun _ ho => by cases ho⟩

theorem ShS.skip {cs : List ByteArray} {S : Hp} {os : List (Int × List Int)} {rs : List Int} {i : Nat} (h : ShS cs S os rs i) : ShS cs S os rs (i + 1) :=
  ⟨h.twin, h.csE, h.lenA, h.now, h.yto, h.oto, by have := h.ytop; omega, by have := h.otop; omega, h.wide, by have := h.few; omega, h.cl⟩

/-- A new object in space k (the nursery, or the first half). -/
theorem ShS.new {cs : List ByteArray} {S : Hp} {os : List (Int × List Int)} {rs : List Int} {i : Nat} (h : ShS cs S os rs i) (hok : S.Ok) (hb : S.bg.length = (S.A.length + 63) / 64) (hi : i < 60) {k : Nat} (hk : k < 2) {c n : Int}
    (h1 : -2 ≤ c) (h2 : c < cs.length) (h3 : 0 ≤ n) (h4 : n ≤ 7) :
    S.room k c n = true ∧ 1 ≤ S.layR k c n ∧ S.layR k c n ≤ 20000 ∧ 0 ≤ wantN cs c n ∧ wantN cs c n ≤ 10 ∧ ShS cs (S.layK k c n) (os ++ [(c, fresh cs c (wantN cs c n).toNat)]) (rs ++ [S.layR k c n]) (i + 1) := by
  have hcs := h.csE
  subst hcs
  have hbd := want_bd hok (c := c) (n := n) h2 h3
  have hy1 := h.yto; have hy2 := h.ytop; have ho1 := h.oto; have ho2 := h.otop
  have hroom : 2 + wantN S.cs c n ≤ (S.sp k).to - (S.sp k).top := by
    match k, hk with
    | 0, _ => show _ ≤ S.y.to - S.y.top; omega
    | 1, _ => show _ ≤ S.h0.to - S.h0.top; omega
  have hr1 : (S.sp k).top + 1 ≤ 20000 := by
    match k, hk with
    | 0, _ => show S.y.top + 1 ≤ _; omega
    | 1, _ => show S.h0.top + 1 ≤ _; omega
  have ht0 := top0 hok k
  obtain ⟨f1, f2, f3, f4, f5, f6, f7, _, _, _⟩ := new_facts hok hb (k := k) (by omega) h1 h2 h3 (by omega) hroom
  obtain ⟨m, hm⟩ := Int.eq_ofNat_of_zero_le hbd.1
  have hm' : (wantN S.cs c n).toNat = m := by omega
  rw [hm'] 
  rw [hm] at f3 f4
  have e0 := laid_sp S k 0 c (2 + (m : Int)) (by omega) (by omega)
  have e1 := laid_sp S k 1 c (2 + (m : Int)) (by omega) (by omega)
  have E0 : (S.laid k c (2 + (m : Int))).sp 0 = (S.laid k c (2 + (m : Int))).y := rfl
  have E1 : (S.laid k c (2 + (m : Int))).sp 1 = (S.laid k c (2 + (m : Int))).h0 := rfl
  have E2 : S.sp 0 = S.y := rfl
  have E3 : S.sp 1 = S.h0 := rfl
  rw [E0] at e0
  rw [E1] at e1
  refine ⟨f1, by rw [f2]; omega, by rw [f2]; exact hr1, by omega, by omega, ?_⟩
  rw [f3, f2]
  refine ⟨h.twin.laid hok hb f4, laid_cs _ _ _ _, ?_, by rw [laid_now]; exact h.now, ?_, ?_, ?_, ?_, wide_laid hok h.wide f4, by have := h.few; simp; omega, ?_⟩
  · rw [laid_A]
    simp [clearL_len]
    exact h.lenA
  · rw [e0]; split
    · rename_i e; subst e; exact hy1
    · exact hy1
  · rw [e1]; split
    · rename_i e; subst e; exact ho1
    · exact ho1
  · rw [e0]; split
    · rename_i e; subst e
      show S.y.top + _ ≤ _
      omega
    · rw [E2]; omega
  · rw [e1]; split
    · rename_i e; subst e
      show S.h0.top + _ ≤ _
      omega
    · rw [E3]; omega
  · intro o ho
    rcases List.mem_append.1 ho with ho | ho
    · exact h.cl o ho
    · simp only [List.mem_singleton] at ho
      subst ho
      show (fresh S.cs c m).length ≤ 10 ∧ c < _ ∧ _
      rw [fresh_len]
      refine ⟨by omega, h2, fun h0 => ?_⟩
      unfold wantN at hm
      have h0' : 0 ≤ c := h0
      rw [if_pos h0'] at hm
      show m = (S.cs.getD c.toNat ByteArray.empty).size
      omega

/-- A value put in both. -/
theorem ShS.put {cs : List ByteArray} {S : Hp} {os : List (Int × List Int)} {rs : List Int} {i : Nat} (h : ShS cs S os rs i) (hok : S.Ok) {k j : Nat} {v x : Int} (hk : k < rs.length) (hj : j < (os.getD k (0, [])).2.length)
    (hv : if S.refB (rs.getD k 0) j = true then RR rs v x else v = x) (hvb : -9223372036854775808 ≤ v ∧ v ≤ 9223372036854775807) :
    S.mayRaw (rs.getD k 0) j v = true ∧ ShS cs (S.put (rs.getD k 0) j v) (os.set k ((os.getD k (0, [])).1, (os.getD k (0, [])).2.set j x)) rs (i + 1) := by
  have his := h.twin.is k hk
  have hnum := h.twin.num k hk
  have hlen := h.twin.len
  have hm : S.mayRaw (rs.getD k 0) j v = true := by
    unfold Hp.mayRaw
    rw [his, decide_eq_true (by omega : (0 : Int) ≤ j ∧ (j : Int) < S.num (rs.getD k 0)), Bool.true_and, Bool.true_and]
    cases hR : S.refB (rs.getD k 0) j with
    | false => rfl
    | true =>
      rw [hR, if_pos rfl] at hv
      rcases hv with ⟨q, hq, rfl, _⟩ | ⟨rfl, _⟩
      · have hi2 := h.twin.is q hq
        have := hok.le hi2
        have hl := hok.len
        rw [hi2, decide_eq_true (by omega : 1 ≤ rs.getD q 0 ∧ rs.getD q 0 ≤ 65536)]
        simp
      · rfl
  refine ⟨hm, h.twin.put hok hk hj hv hm, by rw [put_cs]; exact h.csE, by rw [put_lenA]; exact h.lenA, by rw [put_now]; exact h.now, by rw [put_y]; exact h.yto, by rw [put_h0]; exact h.oto, by rw [put_y]; have := h.ytop; omega, by rw [put_h0]; have := h.otop; omega,
    wide_put h.wide hok hm hvb, by have := h.few; omega, ?_⟩
  intro o ho
  obtain ⟨q, hq, rfl⟩ := List.getElem_of_mem ho
  rw [List.length_set] at hq
  rw [List.getElem_set]
  split
  · rename_i e
    subst e
    have e2 : os.getD k (0, []) = os[k] := by rw [List.getD_eq_getElem?_getD, List.getElem?_eq_getElem hq]; rfl
    have := h.cl _ (List.getElem_mem hq)
    rw [e2]
    simpa using this
  · exact h.cl _ (List.getElem_mem hq)

end Go.Proofs.YtneeljhjfmcdoaaDoor

/-! HeapShapes: the mirror's new values, row by row. No program in sight. -/
namespace Go.Proofs.YtneeljhjfmcdoaaDoor
open Go.RowKit

/-- The values behind j rounds. -/
def freshJ (cs : List ByteArray) (c : Int) (m j : Nat) : List Int := (fresh cs c m).take j ++ List.replicate (m - j) 0

theorem freshJ_zero (cs : List ByteArray) (c : Int) (m : Nat) : freshJ cs c m 0 = List.replicate m 0 := by simp [freshJ]
theorem freshJ_all (cs : List ByteArray) (c : Int) (m : Nat) : freshJ cs c m m = fresh cs c m := by
  unfold freshJ
  rw [Nat.sub_self, List.take_of_length_le (by rw [fresh_len]; exact Nat.le_refl _)]
  simp
theorem freshJ_len (cs : List ByteArray) (c : Int) (m j : Nat) (h : j ≤ m) : (freshJ cs c m j).length = m := by
  unfold freshJ
  rw [List.length_append, List.length_take, fresh_len, List.length_replicate]; omega
theorem freshJ_get (cs : List ByteArray) (c : Int) (m j i : Nat) (h : j ≤ m) (hi : i < m) : (freshJ cs c m j).getD i 0 = if i < j then (if letR cs c i = true then -1 else 0) else 0 := by
  unfold freshJ
  have hl : ((fresh cs c m).take j).length = j := by rw [List.length_take, fresh_len]; omega
  split
  · rename_i hlt
    rw [List.getD_eq_getElem?_getD, List.getElem?_append_left (by omega), List.getElem?_take, if_pos hlt, ← List.getD_eq_getElem?_getD]
    exact fresh_get cs c m i hi
  · rw [List.getD_eq_getElem?_getD, List.getElem?_append_right (by omega), hl, List.getElem?_replicate, if_pos (by omega)]; rfl
theorem freshJ_no (cs : List ByteArray) (c : Int) (m j : Nat) (h : j < m) (hr : letR cs c j = false) : freshJ cs c m (j + 1) = freshJ cs c m j := by
  apply List.ext_getElem
  · rw [freshJ_len _ _ _ _ (by omega), freshJ_len _ _ _ _ (by omega)]
  · intro i h1 h2
    have e1 := freshJ_get cs c m (j + 1) i (by omega) (by rw [freshJ_len _ _ _ _ (by omega)] at h1; exact h1)
    have e2 := freshJ_get cs c m j i (by omega) (by rw [freshJ_len _ _ _ _ (by omega)] at h2; exact h2)
    rw [List.getD_eq_getElem?_getD, List.getElem?_eq_getElem h1, Option.getD_some] at e1
    rw [List.getD_eq_getElem?_getD, List.getElem?_eq_getElem h2, Option.getD_some] at e2
    rw [e1, e2]
    by_cases e : i = j
    · subst e
      rw [hr]; simp
    · by_cases e' : i < j
      · rw [if_pos e', if_pos (by omega)]
      · rw [if_neg e', if_neg (by omega)]
theorem freshJ_yes (cs : List ByteArray) (c : Int) (m j : Nat) (h : j < m) (hr : letR cs c j = true) : (freshJ cs c m j).set j (-1) = freshJ cs c m (j + 1) := by
  apply List.ext_getElem
  · rw [List.length_set, freshJ_len _ _ _ _ (by omega), freshJ_len _ _ _ _ (by omega)]
  · intro i h1 h2
    rw [List.length_set] at h1
    have e1 := freshJ_get cs c m j i (by omega) (by rw [freshJ_len _ _ _ _ (by omega)] at h1; exact h1)
    have e2 := freshJ_get cs c m (j + 1) i (by omega) (by rw [freshJ_len _ _ _ _ (by omega)] at h2; exact h2)
    rw [List.getD_eq_getElem?_getD, List.getElem?_eq_getElem h1, Option.getD_some] at e1
    rw [List.getD_eq_getElem?_getD, List.getElem?_eq_getElem h2, Option.getD_some] at e2
    rw [List.getElem_set, e2]
    by_cases e : i = j
    · subst e
      rw [if_pos rfl, if_pos (by omega), if_pos hr]
    · rw [if_neg (fun e' => e e'.symm), e1]
      by_cases e' : i < j
      · rw [if_pos e', if_pos (show i < j + 1 by omega)]
      · rw [if_neg e', if_neg (show ¬ i < j + 1 by omega)]

end Go.Proofs.YtneeljhjfmcdoaaDoor
