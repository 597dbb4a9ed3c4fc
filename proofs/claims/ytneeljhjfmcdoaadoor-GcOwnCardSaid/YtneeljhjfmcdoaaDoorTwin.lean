/- A heap and its mirror: objects as the document has them. Alike, hence of one shape. -/
import Derived.Test.YtneeljhjfmcdoaaDoorGraph
import Derived.Test.YtneeljhjfmcdoaaDoorAny
import Derived.Test.YtneeljhjfmcdoaaDoorMet
namespace Go.Proofs.YtneeljhjfmcdoaaDoor
open Go.RowKit

theorem getD_snoc_lt {α : Type} (l : List α) (x d : α) (k : Nat) (h : k < l.length) : (l ++ [x]).getD k d = l.getD k d := by
  rw [List.getD_eq_getElem?_getD, List.getElem?_append_left h, List.getD_eq_getElem?_getD]
theorem getD_snoc_eq {α : Type} (l : List α) (x d : α) : (l ++ [x]).getD l.length d = x := by simp
theorem nodup_inj : ∀ (l : List Int), l.Nodup → ∀ a b : Nat, a < l.length → b < l.length → l.getD a 0 = l.getD b 0 → a = b := by
  intro l h a b ha hb e
  rw [List.getD_eq_getElem?_getD, List.getD_eq_getElem?_getD, List.getElem?_eq_getElem ha, List.getElem?_eq_getElem hb] at e
  have e' : l[a] = l[b] := e
  unfold List.Nodup at h
  rw [List.pairwise_iff_getElem] at h
  rcases Nat.lt_trichotomy a b with c | c | c
  · exact absurd e' (h a b ha hb c)
  · exact c
  · exact absurd e'.symm (h b a hb ha c)

/-- A reference and a number that say the same object, or none. -/
def RR (rf : List Int) (a b : Int) : Prop := (∃ k : Nat, k < rf.length ∧ a = rf.getD k 0 ∧ b = (k : Int)) ∨ (a = 0 ∧ b = -1)

theorem RR.snoc {rf : List Int} {a b r : Int} (h : RR rf a b) : RR (rf ++ [r]) a b := by
  rcases h with ⟨k, hk, rfl, rfl⟩ | h
  · exact .inl ⟨k, by simp; omega, (getD_snoc_lt _ _ _ _ hk).symm, rfl⟩
  · exact .inr h

/-- What a new object holds in the mirror. -/
def fresh (cs : List ByteArray) (c : Int) (m : Nat) : List Int := (List.range m).map fun (j : Nat) => if letR cs c j = true then -1 else 0
theorem fresh_len (cs : List ByteArray) (c : Int) (m : Nat) : (fresh cs c m).length = m := by simp [fresh]
theorem fresh_get (cs : List ByteArray) (c : Int) (m j : Nat) (h : j < m) : (fresh cs c m).getD j 0 = if letR cs c j = true then -1 else 0 := by
  rw [List.getD_eq_getElem?_getD, fresh, List.getElem?_map, List.getElem?_range h]; rfl

/-- The heap holds these objects, and the mirror shows them. -/
structure Twin (S : Hp) (rf : List Int) (os : List (Int × List Int)) : Prop where
  len : os.length = rf.length
  nd : rf.Nodup
  is : ∀ k, k < rf.length → S.is (rf.getD k 0) = true
  cls : ∀ k, k < rf.length → S.cls (rf.getD k 0) = (os.getD k (0, [])).1
  num : ∀ k, k < rf.length → S.num (rf.getD k 0) = ((os.getD k (0, [])).2.length : Int)
  val : ∀ k, k < rf.length → ∀ j : Nat, j < (os.getD k (0, [])).2.length → S.refB (rf.getD k 0) j = false → S.get (rf.getD k 0) j = (os.getD k (0, [])).2.getD j 0
  ref : ∀ k, k < rf.length → ∀ j : Nat, j < (os.getD k (0, [])).2.length → S.refB (rf.getD k 0) j = true → RR rf (S.get (rf.getD k 0) j) ((os.getD k (0, [])).2.getD j 0)

theorem Twin.nil (S : Hp) : Twin S [] [] := ⟨rfl, List.nodup_nil, by simp, by simp, by simp, by simp, by simp⟩

theorem is_zero (S : Hp) : S.is 0 = false := by simp [Hp.is]

theorem refB_eq {S : Hp} {r : Int} (hr : S.is r = true) (j : Int) : S.refB r j = (decide (0 ≤ j ∧ j < S.num r) && letR S.cs (S.cls r) j) := by
  unfold Hp.refB
  rw [hr]; rfl

theorem Twin.alike {S : Hp} {rf : List Int} {os : List (Int × List Int)} (h : Twin S rf os) : Alike S.gr (objGr S.cs os) (RR rf) := by
  have his : ∀ a b, RR rf a b → S.is a = true → ∃ k : Nat, k < rf.length ∧ a = rf.getD k 0 ∧ b = (k : Int) := by
    rintro a b (h1 | ⟨rfl, rfl⟩) h2
    · exact h1
    · rw [is_zero] at h2; cases h2
  have hlen := h.len
  refine ⟨?_, ?_, ?_, ?_, ?_, ?_, ?_⟩
  · rintro a b (⟨k, hk, rfl, rfl⟩ | ⟨rfl, rfl⟩)
    · show S.is (rf.getD k 0) = decide (0 ≤ (k : Int) ∧ (k : Int) < os.length)
      rw [h.is k hk, eq_comm, decide_eq_true_eq]; omega
    · show S.is 0 = decide (0 ≤ (-1 : Int) ∧ (-1 : Int) < os.length)
      rw [is_zero, eq_comm, decide_eq_false_iff_not]; omega
  · intro a b hr ha
    obtain ⟨k, hk, rfl, rfl⟩ := his a b hr ha
    exact h.cls k hk
  · intro a b hr ha
    obtain ⟨k, hk, rfl, rfl⟩ := his a b hr ha
    exact h.num k hk
  · intro a b hr ha j _
    obtain ⟨k, hk, rfl, rfl⟩ := his a b hr ha
    show S.refB _ _ = _
    rw [refB_eq (h.is k hk), h.num k hk, h.cls k hk]; rfl
  · intro a b hr ha j hj hf
    obtain ⟨k, hk, rfl, rfl⟩ := his a b hr ha
    have hj' : (j : Int) < S.num (rf.getD k 0) := hj
    rw [h.num k hk] at hj'
    exact h.val k hk j (by omega) hf
  · intro a b hr ha j hj hf
    obtain ⟨k, hk, rfl, rfl⟩ := his a b hr ha
    have hj' : (j : Int) < S.num (rf.getD k 0) := hj
    rw [h.num k hk] at hj'
    exact h.ref k hk j (by omega) hf
  · intro a b c d h1 h2 h3 h4
    obtain ⟨k, hk, rfl, rfl⟩ := his a b h1 h3
    obtain ⟨q, hq, rfl, rfl⟩ := his c d h2 h4
    constructor
    · intro e
      have := nodup_inj rf h.nd k q hk hq e
      omega
    · intro e
      have : k = q := by omega
      rw [this]


/-- A new object. -/
theorem Twin.laid {S : Hp} {rf : List Int} {os : List (Int × List Int)} (h : Twin S rf os) (hS : S.Ok) (hb : S.bg.length = (S.A.length + 63) / 64) {k : Nat} {c : Int} {m : Nat} (f : Fits S k c (2 + (m : Int))) :
    Twin (S.laid k c (2 + (m : Int))) (rf ++ [(S.sp k).top + 1]) (os ++ [(c, fresh S.cs c m)]) := by
  have hlen := h.len
  have hnew := laid_is_new hS f hb
  have hnot : (S.sp k).top + 1 ∉ rf := fun hm => by
    obtain ⟨q, hq, e⟩ := List.getElem_of_mem hm
    have := h.is q hq
    rw [List.getD_eq_getElem?_getD, List.getElem?_eq_getElem hq, Option.getD_some, e, laid_new_not hS f] at this
    cases this
  have ecn := laid_cls_new hS f
  have split : ∀ q, q < (rf ++ [(S.sp k).top + 1]).length → q < rf.length ∨ q = rf.length := fun q hq => by simp at hq; omega
  have gr : ∀ q, q < rf.length → (rf ++ [(S.sp k).top + 1]).getD q 0 = rf.getD q 0 := fun q hq => getD_snoc_lt _ _ _ _ hq
  have go : ∀ q, q < rf.length → (os ++ [(c, fresh S.cs c m)]).getD q (0, []) = os.getD q (0, []) := fun q hq => getD_snoc_lt _ _ _ _ (by omega)
  have nr : (rf ++ [(S.sp k).top + 1]).getD rf.length 0 = (S.sp k).top + 1 := getD_snoc_eq _ _ _
  have no : (os ++ [(c, fresh S.cs c m)]).getD rf.length (0, []) = (c, fresh S.cs c m) := by rw [← hlen]; exact getD_snoc_eq _ _ _
  refine ⟨by simp [hlen], ?_, ?_, ?_, ?_, ?_, ?_⟩
  · rw [List.nodup_append]
    refine ⟨h.nd, by simp, ?_⟩
    intro a ha b hb' e
    simp at hb'
    subst hb'
    subst e
    exact hnot ha
  · intro q hq
    rcases split q hq with hq | rfl
    · rw [gr q hq]; exact laid_is_old hS f hb (h.is q hq)
    · rw [nr]; exact hnew
  · intro q hq
    rcases split q hq with hq | rfl
    · rw [gr q hq, go q hq, (laid_cls_old hS f (h.is q hq)).1]; exact h.cls q hq
    · rw [nr, no, ecn.1]
  · intro q hq
    rcases split q hq with hq | rfl
    · rw [gr q hq, go q hq, (laid_cls_old hS f (h.is q hq)).2]; exact h.num q hq
    · rw [nr, no, ecn.2, fresh_len]; omega
  · intro q hq j hj hf
    rcases split q hq with hq | rfl
    · rw [go q hq] at hj ⊢
      rw [gr q hq, laid_refB_old hS f hb (h.is q hq)] at hf
      rw [gr q hq, laid_get_old hS f (h.is q hq) (by omega) (by rw [h.num q hq]; omega)]
      exact h.val q hq j hj hf
    · rw [no] at hj ⊢
      rw [fresh_len] at hj
      rw [nr, laid_refB_new hS f hb, decide_eq_true (by omega : (0 : Int) ≤ j ∧ (j : Int) < 2 + (m : Int) - 2), Bool.true_and] at hf
      rw [nr, laid_get_new hS f (by omega) (by omega), fresh_get _ _ _ _ hj, if_neg (by
        show ¬ (decide (c = -2) || decide (0 ≤ c) && decide ((S.cs.getD c.toNat ByteArray.empty).get! (j : Int).toNat = 82)) = true
        rw [hf]; simp)]
  · intro q hq j hj hf
    rcases split q hq with hq | rfl
    · rw [go q hq] at hj ⊢
      rw [gr q hq, laid_refB_old hS f hb (h.is q hq)] at hf
      rw [gr q hq, laid_get_old hS f (h.is q hq) (by omega) (by rw [h.num q hq]; omega)]
      exact (h.ref q hq j hj hf).snoc
    · rw [no] at hj ⊢
      rw [fresh_len] at hj
      rw [nr, laid_refB_new hS f hb, decide_eq_true (by omega : (0 : Int) ≤ j ∧ (j : Int) < 2 + (m : Int) - 2), Bool.true_and] at hf
      rw [nr, laid_get_new hS f (by omega) (by omega), fresh_get _ _ _ _ hj, if_pos (show letR S.cs c j = true from hf)]
      exact .inr ⟨rfl, rfl⟩

/-- A value put in both. -/
theorem Twin.put {S : Hp} {rf : List Int} {os : List (Int × List Int)} (h : Twin S rf os) (hS : S.Ok) {k j : Nat} {v x : Int} (hk : k < rf.length) (hj : j < (os.getD k (0, [])).2.length)
    (hv : if S.refB (rf.getD k 0) j = true then RR rf v x else v = x) (hm : S.mayRaw (rf.getD k 0) j v = true) :
    Twin (S.put (rf.getD k 0) j v) rf (os.set k ((os.getD k (0, [])).1, (os.getD k (0, [])).2.set j x)) := by
  have hlen := h.len
  have go : ∀ q, q < rf.length → (os.set k ((os.getD k (0, [])).1, (os.getD k (0, [])).2.set j x)).getD q (0, []) = if q = k then ((os.getD k (0, [])).1, (os.getD k (0, [])).2.set j x) else os.getD q (0, []) := fun q hq => by
    rw [List.getD_eq_getElem?_getD, List.getElem?_set]
    split
    · rename_i e
      subst e
      rw [if_pos (by omega), if_pos rfl]; rfl
    · rename_i e
      rw [if_neg (fun e' => e e'.symm), List.getD_eq_getElem?_getD]
  have g1 : ∀ q, q < rf.length → ((os.set k ((os.getD k (0, [])).1, (os.getD k (0, [])).2.set j x)).getD q (0, [])).1 = (os.getD q (0, [])).1 := fun q hq => by
    rw [go q hq]; split
    · rename_i e; subst e; rfl
    · rfl
  have g2 : ∀ q, q < rf.length → ((os.set k ((os.getD k (0, [])).1, (os.getD k (0, [])).2.set j x)).getD q (0, [])).2.length = (os.getD q (0, [])).2.length := fun q hq => by
    rw [go q hq]; split
    · rename_i e; subst e; simp
    · rfl
  have g3 : ∀ q, q < rf.length → ∀ i : Nat, i < (os.getD q (0, [])).2.length → ((os.set k ((os.getD k (0, [])).1, (os.getD k (0, [])).2.set j x)).getD q (0, [])).2.getD i 0 = if q = k ∧ i = j then x else (os.getD q (0, [])).2.getD i 0 := fun q hq i hi => by
    rw [go q hq]
    by_cases e : q = k
    · subst e
      rw [if_pos rfl]
      show ((os.getD q (0, [])).2.set j x).getD i 0 = _
      rw [getD_set _ _ _ _ hj]
      by_cases e : i = j
      · rw [if_pos e, if_pos ⟨rfl, e⟩]
      · rw [if_neg e, if_neg (fun e' => e e'.2)]
    · rw [if_neg e, if_neg (fun e' => e e'.1)]
  have inj : ∀ q, q < rf.length → (rf.getD q 0 = rf.getD k 0 ↔ q = k) := fun q hq => by
    constructor
    · intro e
      exact nodup_inj rf h.nd q k hq hk e
    · intro e; rw [e]
  have hget : ∀ q, q < rf.length → ∀ i : Nat, i < (os.getD q (0, [])).2.length → (S.put (rf.getD k 0) j v).get (rf.getD q 0) i = if q = k ∧ i = j then v else S.get (rf.getD q 0) i := fun q hq i hi => by
    rw [put_get hS hm _ _ (h.is q hq) (by omega) (by rw [h.num q hq]; omega)]
    by_cases e : q = k ∧ i = j
    · rw [if_pos e, if_pos ⟨(inj q hq).2 e.1, by rw [e.2]⟩]
    · rw [if_neg e, if_neg (fun e' => e ⟨(inj q hq).1 e'.1, by omega⟩)]
  refine ⟨by simp [hlen], h.nd, fun q hq => by rw [put_is]; exact h.is q hq, fun q hq => ?_, fun q hq => ?_, ?_, ?_⟩
  · rw [(put_cls hS hm _ (h.is q hq)).1, g1 q hq]; exact h.cls q hq
  · rw [(put_cls hS hm _ (h.is q hq)).2, g2 q hq]; exact h.num q hq
  · intro q hq i hi hf
    rw [g2 q hq] at hi
    rw [put_refB hS hm] at hf
    rw [hget q hq i hi, g3 q hq i hi]
    by_cases e : q = k ∧ i = j
    · rw [if_pos e, if_pos e]
      obtain ⟨rfl, rfl⟩ := e
      rw [hf] at hv
      simpa using hv
    · rw [if_neg e, if_neg e]
      exact h.val q hq i hi hf
  · intro q hq i hi hf
    rw [g2 q hq] at hi
    rw [put_refB hS hm] at hf
    rw [hget q hq i hi, g3 q hq i hi]
    by_cases e : q = k ∧ i = j
    · rw [if_pos e, if_pos e]
      obtain ⟨rfl, rfl⟩ := e
      rw [hf] at hv
      simpa using hv
    · rw [if_neg e, if_neg e]
      exact h.ref q hq i hi hf

end Go.Proofs.YtneeljhjfmcdoaaDoor
