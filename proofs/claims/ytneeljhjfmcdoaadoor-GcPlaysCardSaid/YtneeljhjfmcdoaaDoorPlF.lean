/- GcPlays: a heap beside objects without addresses, in plain Lean: what is made, put, dropped and collected keeps both alike. GcPlays: the heap and the objects beside it, in memory. GcPlays: the play's small functions: words, same, just. -/
import Derived.Test.YtneeljhjfmcdoaaDoorGcL
import Derived.Test.YtneeljhjfmcdoaaDoorMake
import Derived.Test.YtneeljhjfmcdoaaDoorTwin
import Derived.Test.YtneeljhjfmcdoaaDoorMir
import Derived.Test.YtneeljhjfmcdoaaDoorWordsD
import Derived.Test.YtneeljhjfmcdoaaDoorRShape2
import Derived.Test.YtneeljhjfmcdoaaDoorSame
import Derived.Deep.RegionHeld3
/-! GcPlays: a heap beside objects without addresses, in plain Lean: what is made, put, dropped and collected keeps both alike. -/
namespace Go.Proofs.YtneeljhjfmcdoaaDoor
open Go.RowKit

/-- The heap and the objects beside it are alike through these pairs. -/
structure Bd (S : Hp) (R : Int → Int → Prop) (os : List (Int × List Int)) : Prop where
  al : Alike S.gr (objGr S.cs os) R
  dom : ∀ a b, R a b → (S.is a = true ∧ 0 ≤ b ∧ b < (os.length : Int)) ∨ (a = 0 ∧ b = -1)
  zero : R 0 (-1)

theorem Bd.start {S : Hp} : Bd S (fun a b => a = 0 ∧ b = -1) [] := by
  have no : ∀ a b : Int, a = 0 ∧ b = -1 → S.gr.is a = true → False := fun a b h1 h2 => by
    have h2 : S.is a = true := h2
    rw [h1.1, is_zero] at h2; cases h2
  refine ⟨⟨fun a b h => ?_, fun a b h hi => (no a b h hi).elim, fun a b h hi => (no a b h hi).elim, fun a b h hi => (no a b h hi).elim, fun a b h hi => (no a b h hi).elim, fun a b h hi => (no a b h hi).elim, fun a b c d h _ hi _ => (no a b h hi).elim⟩, fun a b h => .inr h, ⟨rfl, rfl⟩⟩
  obtain ⟨rfl, rfl⟩ := h
  show S.is 0 = decide (0 ≤ (-1 : Int) ∧ (-1 : Int) < (([] : List (Int × List Int)).length : Int))
  rw [is_zero]; rfl

section
variable {S : Hp} {R : Int → Int → Prop} {os : List (Int × List Int)}
theorem Bd.of_is (h : Bd S R os) {a b : Int} (hr : R a b) (hi : S.is a = true) : 0 ≤ b ∧ b < (os.length : Int) := by
  rcases h.dom a b hr with h1 | ⟨rfl, _⟩
  · exact h1.2
  · rw [is_zero] at hi; cases hi
theorem Bd.neg (h : Bd S R os) {a b : Int} (hr : R a b) (hb : b < 0) : a = 0 ∧ b = -1 := by
  rcases h.dom a b hr with h1 | h1
  · omega
  · exact h1
/-- A pair of objects. -/
theorem Bd.obj (h : Bd S R os) {a b : Int} (hr : R a b) (hb : 0 ≤ b) : S.is a = true ∧ b < (os.length : Int) ∧ S.cls a = (os.getD b.toNat (0, [])).1 ∧ S.num a = ((os.getD b.toNat (0, [])).2.length : Int) := by
  rcases h.dom a b hr with h1 | h1
  · exact ⟨h1.1, h1.2.2, h.al.cls a b hr h1.1, h.al.num a b hr h1.1⟩
  · omega

/-- A new object. -/
theorem Bd.laid (h : Bd S R os) (hS : S.Ok) (hb : S.bg.length = (S.A.length + 63) / 64) {k : Nat} {c : Int} {m : Nat} (f : Fits S k c (2 + (m : Int))) :
    Bd (S.laid k c (2 + (m : Int))) (fun a b => R a b ∨ (a = (S.sp k).top + 1 ∧ b = (os.length : Int))) (os ++ [(c, fresh S.cs c m)]) := by
  have hnew := laid_is_new hS f hb
  have hnot := laid_new_not hS f
  have ecn := laid_cls_new hS f
  have hz : (S.laid k c (2 + (m : Int))).is 0 = false := is_zero _
  have go : ∀ b : Int, 0 ≤ b ∧ b < (os.length : Int) → (os ++ [(c, fresh S.cs c m)]).getD b.toNat (0, []) = os.getD b.toNat (0, []) := fun b hb => getD_snoc_lt _ _ _ _ (by omega)
  have no : (os ++ [(c, fresh S.cs c m)]).getD (os.length : Int).toNat (0, []) = (c, fresh S.cs c m) := by
    rw [Int.toNat_natCast]; exact getD_snoc_eq _ _ _
  have iso : ∀ a b, R a b → (S.laid k c (2 + (m : Int))).is a = true → S.is a = true := fun a b hr hi => by
    rcases h.dom a b hr with h1 | ⟨rfl, _⟩
    · exact h1.1
    · rw [hz] at hi; cases hi
  have ecs : (S.laid k c (2 + (m : Int))).cs = S.cs := laid_cs _ _ _ _
  refine ⟨⟨?_, ?_, ?_, ?_, ?_, ?_, ?_⟩, ?_, .inl h.zero⟩
  · rintro a b (hr | ⟨rfl, rfl⟩)
    · show (S.laid k c (2 + (m : Int))).is a = decide (0 ≤ b ∧ b < ((os ++ [(c, fresh S.cs c m)]).length : Int))
      rw [List.length_append]
      rcases h.dom a b hr with h1 | ⟨rfl, rfl⟩
      · rw [laid_is_old hS f hb h1.1, eq_comm, decide_eq_true_eq]; omega
      · rw [hz, eq_comm, decide_eq_false_iff_not]; omega
    · show (S.laid k c (2 + (m : Int))).is _ = decide (0 ≤ (os.length : Int) ∧ (os.length : Int) < ((os ++ [(c, fresh S.cs c m)]).length : Int))
      rw [List.length_append, hnew, eq_comm, decide_eq_true_eq]
      simp; omega
  · rintro a b (hr | ⟨rfl, rfl⟩) hi
    · have ho := iso a b hr hi
      show (S.laid k c (2 + (m : Int))).cls a = ((os ++ [(c, fresh S.cs c m)]).getD b.toNat (0, [])).1
      rw [(laid_cls_old hS f ho).1, go b (h.of_is hr ho)]
      exact h.al.cls a b hr ho
    · show (S.laid k c (2 + (m : Int))).cls _ = ((os ++ [(c, fresh S.cs c m)]).getD (os.length : Int).toNat (0, [])).1
      rw [no, ecn.1]
  · rintro a b (hr | ⟨rfl, rfl⟩) hi
    · have ho := iso a b hr hi
      show (S.laid k c (2 + (m : Int))).num a = (((os ++ [(c, fresh S.cs c m)]).getD b.toNat (0, [])).2.length : Int)
      rw [(laid_cls_old hS f ho).2, go b (h.of_is hr ho)]
      exact h.al.num a b hr ho
    · show (S.laid k c (2 + (m : Int))).num _ = (((os ++ [(c, fresh S.cs c m)]).getD (os.length : Int).toNat (0, [])).2.length : Int)
      rw [no, ecn.2, fresh_len]; omega
  · rintro a b (hr | ⟨rfl, rfl⟩) hi j hj
    · have ho := iso a b hr hi
      have hj : (j : Int) < (S.laid k c (2 + (m : Int))).num a := hj
      rw [(laid_cls_old hS f ho).2] at hj
      show (S.laid k c (2 + (m : Int))).refB a j = (decide (0 ≤ (j : Int) ∧ (j : Int) < (((os ++ [(c, fresh S.cs c m)]).getD b.toNat (0, [])).2.length : Int)) && letR _ ((os ++ [(c, fresh S.cs c m)]).getD b.toNat (0, [])).1 j)
      rw [laid_refB_old hS f hb ho, go b (h.of_is hr ho), ecs]
      exact h.al.refB a b hr ho j hj
    · show (S.laid k c (2 + (m : Int))).refB _ j = (decide (0 ≤ (j : Int) ∧ (j : Int) < (((os ++ [(c, fresh S.cs c m)]).getD (os.length : Int).toNat (0, [])).2.length : Int)) && letR _ ((os ++ [(c, fresh S.cs c m)]).getD (os.length : Int).toNat (0, [])).1 j)
      rw [no, laid_refB_new hS f hb, fresh_len, ecs, show (2 + (m : Int) - 2) = (m : Int) by omega]
      rfl
  · rintro a b (hr | ⟨rfl, rfl⟩) hi j hj hf
    · have ho := iso a b hr hi
      have hj : (j : Int) < (S.laid k c (2 + (m : Int))).num a := hj
      rw [(laid_cls_old hS f ho).2] at hj
      have hf : (S.laid k c (2 + (m : Int))).refB a j = false := hf
      rw [laid_refB_old hS f hb ho] at hf
      show (S.laid k c (2 + (m : Int))).get a j = ((os ++ [(c, fresh S.cs c m)]).getD b.toNat (0, [])).2.getD (j : Int).toNat 0
      rw [laid_get_old hS f ho (by omega) hj, go b (h.of_is hr ho)]
      exact h.al.val a b hr ho j hj hf
    · have hj : (j : Int) < (S.laid k c (2 + (m : Int))).num ((S.sp k).top + 1) := hj
      rw [ecn.2] at hj
      have hf : (S.laid k c (2 + (m : Int))).refB ((S.sp k).top + 1) j = false := hf
      rw [laid_refB_new hS f hb, decide_eq_true (by omega : (0 : Int) ≤ j ∧ (j : Int) < 2 + (m : Int) - 2), Bool.true_and] at hf
      show (S.laid k c (2 + (m : Int))).get _ j = ((os ++ [(c, fresh S.cs c m)]).getD (os.length : Int).toNat (0, [])).2.getD (j : Int).toNat 0
      rw [no, laid_get_new hS f (by omega) (by omega), Int.toNat_natCast, fresh_get _ _ _ _ (by omega), if_neg (by
        show ¬ (decide (c = -2) || decide (0 ≤ c) && decide ((S.cs.getD c.toNat ByteArray.empty).get! (j : Int).toNat = 82)) = true
        rw [hf]; simp)]
  · rintro a b (hr | ⟨rfl, rfl⟩) hi j hj hf
    · have ho := iso a b hr hi
      have hj : (j : Int) < (S.laid k c (2 + (m : Int))).num a := hj
      rw [(laid_cls_old hS f ho).2] at hj
      have hf : (S.laid k c (2 + (m : Int))).refB a j = true := hf
      rw [laid_refB_old hS f hb ho] at hf
      show (fun a b => R a b ∨ _) ((S.laid k c (2 + (m : Int))).get a j) (((os ++ [(c, fresh S.cs c m)]).getD b.toNat (0, [])).2.getD (j : Int).toNat 0)
      rw [laid_get_old hS f ho (by omega) hj, go b (h.of_is hr ho)]
      exact .inl (h.al.ref a b hr ho j hj hf)
    · have hj : (j : Int) < (S.laid k c (2 + (m : Int))).num ((S.sp k).top + 1) := hj
      rw [ecn.2] at hj
      have hf : (S.laid k c (2 + (m : Int))).refB ((S.sp k).top + 1) j = true := hf
      rw [laid_refB_new hS f hb, decide_eq_true (by omega : (0 : Int) ≤ j ∧ (j : Int) < 2 + (m : Int) - 2), Bool.true_and] at hf
      show (fun a b => R a b ∨ _) ((S.laid k c (2 + (m : Int))).get _ j) (((os ++ [(c, fresh S.cs c m)]).getD (os.length : Int).toNat (0, [])).2.getD (j : Int).toNat 0)
      rw [no, laid_get_new hS f (by omega) (by omega), Int.toNat_natCast, fresh_get _ _ _ _ (by omega), if_pos (show letR S.cs c j = true from hf)]
      exact .inl h.zero
  · rintro a b c' d (hr | ⟨rfl, rfl⟩) (hr2 | ⟨rfl, rfl⟩) hi hi2
    · exact h.al.inj a b c' d hr hr2 (iso a b hr hi) (iso c' d hr2 hi2)
    · have ho := iso a b hr hi
      have hd := h.of_is hr ho
      constructor
      · rintro rfl; rw [hnot] at ho; cases ho
      · intro e; omega
    · have ho := iso c' d hr2 hi2
      have hd := h.of_is hr2 ho
      constructor
      · rintro rfl; rw [hnot] at ho; cases ho
      · intro e; omega
    · exact ⟨fun _ => rfl, fun _ => rfl⟩
  · rintro a b (hr | ⟨rfl, rfl⟩)
    · rw [List.length_append]
      rcases h.dom a b hr with h1 | h1
      · exact .inl ⟨laid_is_old hS f hb h1.1, h1.2.1, by omega⟩
      · exact .inr h1
    · exact .inl ⟨hnew, by omega, by simp; omega⟩

/-- A value put in both. -/
theorem Bd.put (h : Bd S R os) (hS : S.Ok) {a b : Int} (hr : R a b) (hb0 : 0 ≤ b) {j : Nat} {v x : Int} (hj : j < (os.getD b.toNat (0, [])).2.length)
    (hv : if S.refB a j = true then R v x else v = x) (hm : S.mayRaw a j v = true) :
    Bd (S.put a j v) R (os.set b.toNat ((os.getD b.toNat (0, [])).1, (os.getD b.toNat (0, [])).2.set j x)) := by
  obtain ⟨hai, hbl, hac, han⟩ := h.obj hr hb0
  have go : ∀ d : Int, 0 ≤ d ∧ d < (os.length : Int) → (os.set b.toNat ((os.getD b.toNat (0, [])).1, (os.getD b.toNat (0, [])).2.set j x)).getD d.toNat (0, []) = if d = b then ((os.getD b.toNat (0, [])).1, (os.getD b.toNat (0, [])).2.set j x) else os.getD d.toNat (0, []) := fun d hd => by
    rw [List.getD_eq_getElem?_getD, List.getElem?_set]
    by_cases e : d = b
    · subst e
      rw [if_pos rfl, if_pos (by omega), if_pos rfl]; rfl
    · rw [if_neg (by omega), if_neg e, List.getD_eq_getElem?_getD]
  have g1 : ∀ d : Int, 0 ≤ d ∧ d < (os.length : Int) → ((os.set b.toNat ((os.getD b.toNat (0, [])).1, (os.getD b.toNat (0, [])).2.set j x)).getD d.toNat (0, [])).1 = (os.getD d.toNat (0, [])).1 := fun d hd => by
    rw [go d hd]; split
    · rename_i e; subst e; rfl
    · rfl
  have g2 : ∀ d : Int, 0 ≤ d ∧ d < (os.length : Int) → ((os.set b.toNat ((os.getD b.toNat (0, [])).1, (os.getD b.toNat (0, [])).2.set j x)).getD d.toNat (0, [])).2.length = (os.getD d.toNat (0, [])).2.length := fun d hd => by
    rw [go d hd]; split
    · rename_i e; subst e; simp
    · rfl
  have g3 : ∀ d : Int, 0 ≤ d ∧ d < (os.length : Int) → ∀ i : Nat, ((os.set b.toNat ((os.getD b.toNat (0, [])).1, (os.getD b.toNat (0, [])).2.set j x)).getD d.toNat (0, [])).2.getD i 0 = if d = b ∧ i = j then x else (os.getD d.toNat (0, [])).2.getD i 0 := fun d hd i => by
    rw [go d hd]
    by_cases e : d = b
    · subst e
      rw [if_pos rfl]
      show ((os.getD d.toNat (0, [])).2.set j x).getD i 0 = _
      rw [getD_set _ _ _ _ hj]
      by_cases e : i = j
      · rw [if_pos e, if_pos ⟨rfl, e⟩]
      · rw [if_neg e, if_neg (fun e' => e e'.2)]
    · rw [if_neg e, if_neg (fun e' => e e'.1)]
  have gi : ∀ c d, R c d → (S.put a j v).is c = true → S.is c = true := fun c d _ hi => by rwa [put_is] at hi
  have hget : ∀ c d, R c d → S.is c = true → ∀ i : Nat, (i : Int) < S.num c → (S.put a j v).get c i = if d = b ∧ i = j then v else S.get c i := fun c d hr2 hc i hi => by
    rw [put_get hS hm _ _ hc (by omega) hi]
    have := h.al.inj c d a b hr2 hr hc hai
    by_cases e : d = b ∧ i = j
    · rw [if_pos e, if_pos ⟨this.2 e.1, by rw [e.2]⟩]
    · rw [if_neg e, if_neg (fun e' => e ⟨this.1 e'.1, by omega⟩)]
  have ecs : (S.put a j v).cs = S.cs := put_cs _ _ _ _
  refine ⟨⟨?_, ?_, ?_, ?_, ?_, ?_, ?_⟩, ?_, h.zero⟩
  · intro c d hr2
    show (S.put a j v).is c = decide (0 ≤ d ∧ d < ((os.set b.toNat _).length : Int))
    rw [put_is, List.length_set]
    exact h.al.is c d hr2
  · intro c d hr2 hi
    have hc := gi c d hr2 hi
    show (S.put a j v).cls c = _
    rw [(put_cls hS hm c hc).1]
    exact (h.al.cls c d hr2 hc).trans (g1 d (h.of_is hr2 hc)).symm
  · intro c d hr2 hi
    have hc := gi c d hr2 hi
    show (S.put a j v).num c = (((os.set b.toNat _).getD d.toNat (0, [])).2.length : Int)
    rw [(put_cls hS hm c hc).2, g2 d (h.of_is hr2 hc)]
    exact h.al.num c d hr2 hc
  · intro c d hr2 hi i hii
    have hc := gi c d hr2 hi
    have hii : (i : Int) < (S.put a j v).num c := hii
    rw [(put_cls hS hm c hc).2] at hii
    show (S.put a j v).refB c i = (decide (0 ≤ (i : Int) ∧ (i : Int) < (((os.set b.toNat _).getD d.toNat (0, [])).2.length : Int)) && letR _ ((os.set b.toNat _).getD d.toNat (0, [])).1 i)
    rw [put_refB hS hm, g1 d (h.of_is hr2 hc), g2 d (h.of_is hr2 hc), ecs]
    exact h.al.refB c d hr2 hc i hii
  · intro c d hr2 hi i hii hf
    have hc := gi c d hr2 hi
    have hii : (i : Int) < (S.put a j v).num c := hii
    rw [(put_cls hS hm c hc).2] at hii
    have hf2 : S.refB c i = false := by
      have h9 : (S.put a j v).refB c i = false := hf
      rwa [put_refB hS hm] at h9
    show (S.put a j v).get c i = ((os.set b.toNat _).getD d.toNat (0, [])).2.getD (i : Int).toNat 0
    rw [hget c d hr2 hc i hii, Int.toNat_natCast, g3 d (h.of_is hr2 hc) i]
    by_cases e : d = b ∧ i = j
    · rw [if_pos e, if_pos e]
      obtain ⟨rfl, rfl⟩ := e
      obtain rfl := (h.al.inj c d a d hr2 hr hc hai).2 rfl
      rw [hf2] at hv
      simpa using hv
    · rw [if_neg e, if_neg e]
      have := h.al.val c d hr2 hc i hii hf2
      exact this
  · intro c d hr2 hi i hii hf
    have hc := gi c d hr2 hi
    have hii : (i : Int) < (S.put a j v).num c := hii
    rw [(put_cls hS hm c hc).2] at hii
    have hf2 : S.refB c i = true := by
      have h9 : (S.put a j v).refB c i = true := hf
      rwa [put_refB hS hm] at h9
    show R ((S.put a j v).get c i) (((os.set b.toNat _).getD d.toNat (0, [])).2.getD (i : Int).toNat 0)
    rw [hget c d hr2 hc i hii, Int.toNat_natCast, g3 d (h.of_is hr2 hc) i]
    by_cases e : d = b ∧ i = j
    · rw [if_pos e, if_pos e]
      obtain ⟨rfl, rfl⟩ := e
      obtain rfl := (h.al.inj c d a d hr2 hr hc hai).2 rfl
      rw [hf2] at hv
      simpa using hv
    · rw [if_neg e, if_neg e]
      exact h.al.ref c d hr2 hc i hii hf2
  · intro p q c d h1 h2 h3 h4
    exact h.al.inj p q c d h1 h2 (gi p q h1 h3) (gi c d h2 h4)
  · intro c d hr2
    rw [put_is, List.length_set]
    exact h.dom c d hr2

/-- Behind a collection. -/
theorem Bd.after (h : Bd S R os) (hI : S.Inv) {all : Bool} {rs : List Int} {sc : Int → Nat → Bool} {M : Mv} {bg : List Nat} (hd : Done S all rs sc M bg) :
    Bd (S.left all M bg) (fun a' b => ∃ a, M.Rel (S.cx all) a a' ∧ R a b) os := by
  have hA := after_alike (mr := List.replicate ((S.A.length + 63) / 64) 0) hd.fin hI.tight (fun _ => hI.barr) hd.marks
  have back : ∀ a a', M.Rel (S.cx all) a a' → (S.left all M bg).is a' = true → S.is a = true := fun a a' hr hi => by
    have : S.is a = (S.left all M bg).is a' := hA.is a a' hr
    rw [this]; exact hi
  refine ⟨⟨?_, ?_, ?_, ?_, ?_, ?_, ?_⟩, ?_, ⟨0, .inl ⟨rfl, rfl⟩, h.zero⟩⟩
  · rintro a' b ⟨a, h1, h2⟩
    exact (hA.is a a' h1).symm.trans (h.al.is a b h2)
  · rintro a' b ⟨a, h1, h2⟩ hi
    have ha := back a a' h1 hi
    exact (hA.cls a a' h1 ha).symm.trans (h.al.cls a b h2 ha)
  · rintro a' b ⟨a, h1, h2⟩ hi
    have ha := back a a' h1 hi
    exact (hA.num a a' h1 ha).symm.trans (h.al.num a b h2 ha)
  · rintro a' b ⟨a, h1, h2⟩ hi j hj
    have ha := back a a' h1 hi
    have hj : (j : Int) < S.gr.num a := by
      have e : S.gr.num a = (S.left all M bg).gr.num a' := hA.num a a' h1 ha
      rw [e]; exact hj
    exact (hA.refB a a' h1 ha j hj).symm.trans (h.al.refB a b h2 ha j hj)
  · rintro a' b ⟨a, h1, h2⟩ hi j hj hf
    have ha := back a a' h1 hi
    have hj : (j : Int) < S.gr.num a := by
      have e : S.gr.num a = (S.left all M bg).gr.num a' := hA.num a a' h1 ha
      rw [e]; exact hj
    have hf2 : S.gr.refB a j = false := (hA.refB a a' h1 ha j hj).trans hf
    exact (hA.val a a' h1 ha j hj hf2).symm.trans (h.al.val a b h2 ha j hj hf2)
  · rintro a' b ⟨a, h1, h2⟩ hi j hj hf
    have ha := back a a' h1 hi
    have hj : (j : Int) < S.gr.num a := by
      have e : S.gr.num a = (S.left all M bg).gr.num a' := hA.num a a' h1 ha
      rw [e]; exact hj
    have hf2 : S.gr.refB a j = true := (hA.refB a a' h1 ha j hj).trans hf
    exact ⟨_, hA.ref a a' h1 ha j hj hf2, h.al.ref a b h2 ha j hj hf2⟩
  · rintro a' b c' d ⟨a, h1, h2⟩ ⟨c, h3, h4⟩ hi hi2
    have ha := back a a' h1 hi
    have hc := back c c' h3 hi2
    exact (hA.inj a a' c c' h1 h3 ha hc).symm.trans (h.al.inj a b c d h2 h4 ha hc)
  · rintro a' b ⟨a, h1, h2⟩
    rcases h.dom a b h2 with h3 | ⟨rfl, rfl⟩
    · refine .inl ⟨?_, h3.2⟩
      have : S.is a = (S.left all M bg).is a' := hA.is a a' h1
      rw [← this]; exact h3.1
    · rcases h1 with ⟨_, rfl⟩ | hi
      · exact .inr ⟨rfl, rfl⟩
      · have := (hd.fin.m.place hd.fin.ok hi).1
        have h0 : S.is 0 = false := is_zero S
        have h1 : S.is 0 = true := this
        rw [h0] at h1; cases h1

/-- Roots on both sides. -/
def RtR (R : Int → Int → Prop) (rs ts : List Int) : Prop := rs.length = ts.length ∧ ∀ k, k < rs.length → R (rs.getD k 0) (ts.getD k 0)

theorem RtR.after (h : Bd S R os) {all : Bool} {rs ts : List Int} {sc : Int → Nat → Bool} {M : Mv} {bg : List Nat} (hd : Done S all rs sc M bg) (hr : RtR R rs ts) :
    RtR (fun a' b => ∃ a, M.Rel (S.cx all) a a' ∧ R a b) (rs.map (fwL M.mv)) ts := by
  refine ⟨by rw [List.length_map]; exact hr.1, fun k hk => ?_⟩
  rw [List.length_map] at hk
  have e : (rs.map (fwL M.mv)).getD k 0 = fwL M.mv (rs.getD k 0) := by simp [List.getD_eq_getElem?_getD, List.getElem?_eq_getElem hk]
  have hm : rs.getD k 0 ∈ rs := by rw [List.getD_eq_getElem?_getD, List.getElem?_eq_getElem hk]; exact List.getElem_mem hk
  rw [e]
  refine ⟨_, rel_fw hd.fin ?_ (fun hf => hd.roots _ hm hf), hr.2 k hk⟩
  rcases h.dom _ _ (hr.2 k hk) with h1 | h1
  · exact .inr h1.1
  · exact .inl h1.1
theorem RtR.snoc {rs ts : List Int} {r t : Int} (h : RtR R rs ts) (hr : R r t) : RtR R (rs ++ [r]) (ts ++ [t]) := by
  have hl := h.1
  refine ⟨by simp [hl], fun k hk => ?_⟩
  rw [List.length_append] at hk
  by_cases hk2 : k < rs.length
  · rw [getD_snoc_lt _ _ _ _ hk2, getD_snoc_lt _ _ _ _ (by omega)]
    exact h.2 k hk2
  · obtain rfl : k = rs.length := by simp at hk; omega
    rw [getD_snoc_eq, hl, getD_snoc_eq]
    exact hr
theorem RtR.mono {R' : Int → Int → Prop} {rs ts : List Int} (h : RtR R rs ts) (hR : ∀ a b, R a b → R' a b) : RtR R' rs ts := ⟨h.1, fun k hk => hR _ _ (h.2 k hk)⟩
theorem RtR.drop (hz : R 0 (-1)) {rs ts : List Int} (h : RtR R rs ts) (k : Nat) : RtR R (rs.set k 0) (ts.set k (-1)) := by
  have hl := h.1
  refine ⟨by simp [hl], fun i hi => ?_⟩
  rw [List.length_set] at hi
  by_cases e : i = k
  · subst e
    rw [getD_set _ _ _ _ hi, getD_set _ _ _ _ (by omega), if_pos rfl, if_pos rfl]
    exact hz
  · have e1 : (rs.set k 0).getD i 0 = rs.getD i 0 := by
      rw [List.getD_eq_getElem?_getD, List.getElem?_set_ne (fun h => e h.symm), List.getD_eq_getElem?_getD]
    have e2 : (ts.set k (-1)).getD i 0 = ts.getD i 0 := by
      rw [List.getD_eq_getElem?_getD, List.getElem?_set_ne (fun h => e h.symm), List.getD_eq_getElem?_getD]
    rw [e1, e2]
    exact h.2 i hi
theorem RtR.roots (h : Bd S R os) {rs ts : List Int} (hr : RtR R rs ts) : ∀ r ∈ rs, r = 0 ∨ S.is r = true := fun r hm => by
  obtain ⟨k, hk, rfl⟩ := List.getElem_of_mem hm
  have := hr.2 k hk
  rw [List.getD_eq_getElem?_getD, List.getElem?_eq_getElem hk] at this
  rcases h.dom _ _ this with h1 | h1
  · exact .inr h1.1
  · exact .inl h1.1

/-- The shapes are the same. -/
theorem Bd.shape (h : Bd S R os) (hS : S.Ok) {rs ts : List Int} (hr : RtR R rs ts) : S.shape rs = (objGr S.cs os).shapeN (os.length + 1) ts := by
  have hG : ∀ r, (objGr S.cs os).is r = true → 0 ≤ r ∧ r < (os.length : Int) := fun r hr => of_decide_eq_true hr
  have hG2 : ∀ r, S.gr.is r = true → 0 ≤ r ∧ r < (S.A.length : Int) := fun r hr => hS.lt hr
  have e1 : S.gr.shapeN (S.A.length + 1) rs = S.gr.shapeN (S.A.length + os.length + 1) rs := by
    unfold Gr.shapeN
    rw [Gr.outN_stay _ _ (S.A.length + 1) (S.A.length + os.length + 1) (outN_done hG2 (InN.roots hG2 rs)) (by omega)]
  rw [gr_shape, e1, shape_sim h.al (S.A.length + os.length + 1) rs ts hr.1 hr.2]
  unfold Gr.shapeN
  rw [Gr.outN_stay _ _ (os.length + 1) (S.A.length + os.length + 1) (outN_done hG (InN.roots hG ts)) (by omega)]
end

/-- A shape's objects have their classes' sizes. -/
theorem shape_sizes {S : Hp} (hS : S.Ok) (rs : List Int) : ∀ o ∈ (S.shape rs).1, o.1 < S.cs.length ∧ (0 ≤ o.1 → o.2.length = (S.cs.getD o.1.toNat ByteArray.empty).size) ∧ o.2.length ≤ 100000 := by
  intro o ho
  rw [gr_shape] at ho
  have ho : o ∈ (S.gr.outN (S.A.length + 1) ([], (S.gr.roots rs).2)).1 := ho
  obtain ⟨k, hk, e⟩ := List.getElem_of_mem ho
  obtain ⟨h1, h2, h3, _⟩ := outN_in (G := S.gr) (S.A.length + 1) (S.gr.roots rs).2 k hk
  have hrm : (S.gr.outN (S.A.length + 1) ([], (S.gr.roots rs).2)).2.getD k 0 ∈ S.reach rs := by
    rw [List.getD_eq_getElem?_getD, List.getElem?_eq_getElem h1]; exact List.getElem_mem h1
  have hri := reach_all (S := S) (rs := rs) (P := fun a => S.is a = true) (fun r _ hi => hi) (fun a _ j _ _ hi => hi) _ hrm
  generalize (S.gr.outN (S.A.length + 1) ([], (S.gr.roots rs).2)).2.getD k 0 = r at h2 h3 hri
  rw [List.getD_eq_getElem?_getD, List.getElem?_eq_getElem hk, Option.getD_some, e] at h2 h3
  have hb := (is_bhas hri).1
  obtain ⟨q1, q2, q3, q4⟩ := hS.heads _ hb
  have hl := hS.len
  have hn := unN_nonneg (S.A.getD (r - 1).toNat 0)
  have e1 : o.1 = unC (S.A.getD (r - 1).toNat 0) := h2
  have e2 : o.2.length = (unN (S.A.getD (r - 1).toNat 0)).toNat := h3
  refine ⟨by rw [e1]; exact q2, fun h0 => ?_, by omega⟩
  rw [e1] at h0 ⊢
  have := q3 h0
  omega

/-- A new object, as Make lays it. -/
theorem Bd.lay {S : Hp} {R : Int → Int → Prop} {os : List (Int × List Int)} (h : Bd S R os) (hS : S.Ok) (hb : S.bg.length = (S.A.length + 63) / 64) {c n : Int} (hc : -2 ≤ c ∧ c < S.cs.length) (hn : 0 ≤ n ∧ n ≤ 50) {k : Nat} (hk : k < 3) (hr : S.room k c n = true) :
    Bd (S.layK k c n) (fun a b => R a b ∨ (a = S.layR k c n ∧ b = (os.length : Int))) (os ++ [(c, fresh S.cs c (wantN S.cs c n).toNat)]) ∧ (S.layK k c n).cs = S.cs ∧ (S.layK k c n).bnd = S.bnd := by
  have hw := words_want (S := S) hc.1 hc.2 hn.1 hn.2
  have hbd := want_bd hS hc.2 hn.1
  have hr' := hr
  simp only [Hp.room, decide_eq_true_eq] at hr'
  obtain ⟨f1, f2, f3, f4, _⟩ := new_facts hS hb hk hc.1 hc.2 hn.1 hn.2 (by omega)
  refine ⟨?_, by rw [f3, laid_cs], layK_bnd hk _ _⟩
  have e : (2 : Int) + wantN S.cs c n = 2 + ((wantN S.cs c n).toNat : Int) := by omega
  rw [e] at f3 f4
  rw [f3, f2]
  exact h.laid hS hb f4

/-- The halves are alike. -/
def Hp.Even (S : Hp) : Prop := S.h0.to - S.h0.fr = S.h1.to - S.h1.fr
theorem even_bnd {S S' : Hp} (h : S'.bnd = S.bnd) (he : S.Even) : S'.Even := by
  unfold Hp.bnd at h
  simp only [List.cons.injEq, and_true] at h
  unfold Hp.Even at he ⊢
  omega
theorem even_old {S : Hp} (he : S.Even) : S.old.to - S.old.fr = S.h0.to - S.h0.fr ∧ (S.sp (3 - S.oldK)).to - (S.sp (3 - S.oldK)).fr = S.h0.to - S.h0.fr := by
  unfold Hp.Even at he
  rw [← sp_oldK]
  rcases oldK_12 S with e | e
  · rw [e]
    exact ⟨rfl, he.symm⟩
  · rw [e]
    exact ⟨he.symm, rfl⟩

theorem left_bnd (S : Hp) (all : Bool) (M : Mv) (bg : List Nat) : (S.left all M bg).bnd = S.bnd := by unfold Hp.left; rw [after_bnd]; rfl
theorem left_y {S : Hp} {all : Bool} {rs : List Int} {sc : Int → Nat → Bool} {M : Mv} {bg : List Nat} (hd : Done S all rs sc M bg) : (S.left all M bg).y = { S.y with top := S.y.fr } := after_y hd.fin
/-- What a collection leaves. -/
theorem pl_left {S : Hp} {R : Int → Int → Prop} {os : List (Int × List Int)} {rs ts : List Int} (h : Bd S R os) (hI : S.Inv) (hr : RtR R rs ts) {all : Bool} {sc : Int → Nat → Bool} {M : Mv} {bg : List Nat} (hd : Done S all rs sc M bg) :
    ∃ R', Bd (S.left all M bg) R' os ∧ RtR R' (rs.map (fwL M.mv)) ts ∧ (S.left all M bg).cs = S.cs ∧ (S.left all M bg).shape (rs.map (fwL M.mv)) = S.shape rs :=
  ⟨_, h.after hI hd, hr.after h hd, rfl, done_shape hI hd (hr.roots h)⟩
/-- Behind a great one the old half has just the words of what can be reached. -/
theorem pl_just {S : Hp} (hS : S.Ok) (hI : S.Inv) (he : S.Even) {rs : List Int} {sc : Int → Nat → Bool} {M : Mv} {bg : List Nat} (hd : Done S true rs sc M bg) :
    (S.left true M bg).old.to - (S.left true M bg).old.top = S.h0.to - S.h0.fr - wordsO (S.shape rs).1 := by
  obtain ⟨t1, t2, t3⟩ := done_top hS hI (mr := List.replicate ((S.A.length + 63) / 64) 0) hd
  have t1' : (S.left true M bg).old.top = (S.left true M bg).old.fr + sumW S (S.reach rs) := t1
  have t2' : (S.left true M bg).old.fr = (S.sp (3 - S.oldK)).fr := t2
  have t3' : (S.left true M bg).old.to = (S.sp (3 - S.oldK)).to := t3
  have := (even_old he).2
  rw [words_reach hS]
  omega

/-- What Make does. -/
theorem pl_made {S : Hp} {R : Int → Int → Prop} {os : List (Int × List Int)} {rs ts : List Int} (h : Bd S R os) (hS : S.Ok) (hI : S.Inv) (hb : S.bg.length = (S.A.length + 63) / 64) (he : S.Even) (hr : RtR R rs ts)
    {c n : Int} (hc : -2 ≤ c ∧ c < S.cs.length) (hn : 0 ≤ n ∧ n ≤ 50) {r : Int} {rs' : List Int} {is : Bool} {S' : Hp} (hm : Made S c n rs r rs' is S') (hb' : S'.bg.length = (S'.A.length + 63) / 64) :
    rs'.length = rs.length ∧ S'.cs = S.cs ∧ S'.bnd = S.bnd ∧
    ((is = true ∧ ∃ R', Bd S' R' (os ++ [(c, fresh S.cs c (wantN S.cs c n).toNat)]) ∧ RtR R' (rs' ++ [r]) (ts ++ [(os.length : Int)])) ∨
     (is = false ∧ r = 0 ∧ ∃ R', Bd S' R' os ∧ RtR R' rs' ts ∧ (S.h0.to - S.h0.fr < wordsO (S'.shape rs').1 + (2 + wantN S.cs c n)))) := by
  have hw := words_want (S := S) hc.1 hc.2 hn.1 hn.2
  have hbd := want_bd hS hc.2 hn.1
  have hk0 : S.layAt c n < 3 := by have := oldK_12 S; unfold Hp.layAt; split <;> omega
  have bgl : ∀ (S1 : Hp) (k : Nat), (S1.layK k c n).bg.length = ((S1.layK k c n).A.length + 63) / 64 → S1.bg.length = (S1.A.length + 63) / 64 := fun S1 k => by
    unfold Hp.layK
    split
    · rw [laid_len, laid_bg, show ∀ l i, (badd l i).length = l.length from fun l i => by simp [badd]]; exact id
    · exact id
  cases hm with
  | none h1 => omega
  | room h1 hrm =>
    obtain ⟨g1, g2, g3⟩ := h.lay hS hb hc hn hk0 hrm
    exact ⟨rfl, g2, g3, .inl ⟨rfl, _, g1, (hr.mono (fun a b hab => Or.inl hab)).snoc (.inr ⟨rfl, rfl⟩)⟩⟩
  | minor h1 hrm hwy sc M bg hg hd =>
    obtain ⟨R', k1, k2, k3, k4⟩ := pl_left h hI hr hd
    have ok' : (S.left false M bg).Ok := after_ok hd.fin
    have hy := left_y hd
    have e0 : (S.left false M bg).sp 0 = (S.left false M bg).y := rfl
    have hwl : (S.left false M bg).words c n = S.words c n := by unfold Hp.words; rw [k3]
    have rm : (S.left false M bg).room 0 c n = true := by
      unfold Hp.room
      rw [hwl, e0, hy, decide_eq_true_eq]
      exact ⟨h1, hwy⟩
    obtain ⟨g1, g2, g3⟩ := k1.lay ok' (bgl _ _ hb') (by rw [k3]; exact hc) hn (by omega) rm
    rw [k3] at g1
    refine ⟨by rw [List.length_map], by rw [g2, k3], by rw [g3, left_bnd], .inl ⟨rm, _, g1, (k2.mono (fun a b hab => Or.inl hab)).snoc (.inr ⟨rfl, rfl⟩)⟩⟩
  | major h1 hrm hwy sc M bg hg hd k hk =>
    obtain ⟨R', k1, k2, k3, k4⟩ := pl_left h hI hr hd
    have ok' : (S.left true M bg).Ok := after_ok hd.fin
    have hy := left_y hd
    have e0 : (S.left true M bg).sp 0 = (S.left true M bg).y := rfl
    have hwl : (S.left true M bg).words c n = S.words c n := by unfold Hp.words; rw [k3]
    have hk3 : k < 3 := by have := oldK_12 (S.left true M bg); rw [hk]; split <;> omega
    have hj := pl_just hS hI he hd
    cases hrk : (S.left true M bg).room k c n with
    | true =>
      obtain ⟨g1, g2, g3⟩ := k1.lay ok' (bgl _ _ hb') (by rw [k3]; exact hc) hn hk3 hrk
      rw [k3] at g1
      exact ⟨by rw [List.length_map], by rw [g2, k3], by rw [g3, left_bnd], .inl ⟨rfl, _, g1, (k2.mono (fun a b hab => Or.inl hab)).snoc (.inr ⟨rfl, rfl⟩)⟩⟩
    | false =>
      have eK : (S.left true M bg).layK k c n = S.left true M bg := by unfold Hp.layK; rw [if_neg (by rw [hrk]; simp)]
      have eR : (S.left true M bg).layR k c n = 0 := by unfold Hp.layR; rw [if_neg (by rw [hrk]; simp)]
      rw [eK, eR]
      refine ⟨by rw [List.length_map], k3, left_bnd _ _ _ _, .inr ⟨rfl, rfl, R', k1, k2, ?_⟩⟩
      rw [k4]
      unfold Hp.room at hrk
      rw [hwl, decide_eq_false_iff_not] at hrk
      by_cases hle : S.words c n ≤ S.y.to - S.y.fr
      · rw [hk, if_pos hle, e0, hy] at hrk
        exact absurd ⟨h1, hle⟩ hrk
      · rw [hk, if_neg hle, sp_oldK] at hrk
        omega
  | fail h1 hrm hwy hg =>
    refine ⟨rfl, rfl, rfl, .inr ⟨rfl, rfl, R, h, hr, ?_⟩⟩
    unfold Hp.asks Hp.gives at hg
    rw [if_pos rfl, if_pos rfl, (even_old he).2, ← words_reach hS] at hg
    omega
end Go.Proofs.YtneeljhjfmcdoaaDoor

/-! GcPlays: the heap and the objects beside it, in memory. -/
namespace Go.Proofs.YtneeljhjfmcdoaaDoor
open Go.RowKit

/-- A row's element is set. -/
theorem OwnI.setk {w : World} {base g c : Nat} {e : TypeId} {xs : List Int} {n : Nat} (hn : xs.length = n) (h : OwnI w base e (.slice (some ⟨g, 0, none⟩) n c) xs) (k : Nat) (x : Int) : OwnI (w.setCell ⟨g, k, none⟩ (.int .i64 x)) base e (.slice (some ⟨g, 0, none⟩) n c) (xs.set k x) := by
  subst hn
  rcases h.2 with ⟨h1, _⟩ | ⟨g', cap, cur, h1, h2, h3, h4, h5, h6, h7⟩
  · cases h1
  · injection h1 with e1 e2 e3
    injection e1 with e1
    injection e1 with e1 _ _
    subst e1 e3
    refine ⟨by simp, .inr ⟨g, c, cur.setIfInBounds k (.int .i64 x), by simp, h2, heap_setCell h3 k _, by simpa using h4, h5, by simpa using h6, ?_⟩⟩
    rw [List.length_set]
    rw [Nat.mul_one] at h7 ⊢
    rw [Array.toList_setIfInBounds, List.take_set, h7, List.map_set]
theorem own_heap_ne2 {w : World} {b1 : Nat} {e1 e2 : TypeId} {s1 : Nat} {v1 : Value} {n1 : Nat} {x1 : List Value} {b : Nat} {c : Array Value} (h1 : w.ownsRow b1 e1 s1 v1 n1 x1) (h2 : w.heap[b]? = some (.cells c e2)) (he : e1 ≠ e2) : v1.ownBlock ≠ some b := by
  intro hk
  rcases h1.2 with ⟨hv, _⟩ | ⟨g, cp, cur, hv, _, hg, _⟩
  · rw [hv] at hk; simp [Value.ownBlock] at hk
  · rw [hv] at hk
    simp only [Value.ownBlock, Option.some.injEq] at hk
    subst hk
    rw [hg] at h2
    injection h2 with h2
    injection h2 with _ h _
    exact he h
theorem objsV_row2 {w : World} {B : Nat} {uv : Value} {ps : List OP} (hout : w.ownsRow B 106 2 uv ps.length (oflat ps)) (hvals : ∀ p ∈ ps, IntsV w p.v p.b p.xs) : ObjsV w uv (ps.map OP.o) := by
  have hl : (ps.map OP.o).length = ps.length := by simp
  rcases hout.2 with ⟨h1, h2⟩ | ⟨g, cap, cur, hv, _⟩
  · exact ⟨none, 0, by rw [hl, h1, h2], fun k hk => by rw [hl] at hk; omega⟩
  · refine ⟨_, cap, by rw [hl]; exact hv, fun k hk => ?_⟩
    rw [hl] at hk
    obtain ⟨h1, h2⟩ := oflat_get ps k hk
    have h3 := hout.cells (g := g) (by rw [hv]; rfl) _ _ h1
    have h4 := hout.cells (g := g) (by rw [hv]; rfl) _ _ h2
    rw [Addr.add_lit, Nat.zero_add] at h3 h4
    have e : (ps.map OP.o).getD k (0, []) = (ps[k].c, ps[k].xs) := by
      rw [List.getD_eq_getElem?_getD, List.getElem?_map, List.getElem?_eq_getElem hk]; rfl
    rw [e]
    exact ⟨g, _, _, rfl, h3, h4, hvals _ (List.getElem_mem hk)⟩

/-- All that a play holds in memory. -/
structure PlAt (w0 w : World) (xb : Nat) (L : HL) (hv hmv cv mv : Value) (cb co : Nat) (S : Hp) (rv ov nv : Value) (rs ts : List Int) (ps : List OP) : Prop where
  x : w.heap[xb]? = some (.cells #[cv, mv, .pointer (some ⟨L.hb, 0, none⟩), rv, ov, nv] 72)
  gc : GcAt w0 w L hv hmv S
  rt : OwnI w (xb + 1) 3 rv rs
  nm : OwnI w (xb + 1) 2 nv ts
  ob : Mir w (xb + 1) ov ps
  cls : ClsAt w cv cb co S.cs
  lo : cb < w0.heap.size ∧ w0.heap.size ≤ xb ∧ 1 < xb
  sp : ∀ p ∈ ps, nv.ownBlock ≠ some p.b
  ap : ∀ i ∈ L.all, i ≠ xb ∧ rv.ownBlock ≠ some i ∧ nv.ownBlock ≠ some i ∧ ov.ownBlock ≠ some i ∧ ∀ p ∈ ps, p.b ≠ i

section
variable {w0 w : World} {xb : Nat} {L : HL} {hv hmv cv mv : Value} {cb co : Nat} {S : Hp} {rv ov nv : Value} {rs ts : List Int} {ps : List OP} (h : PlAt w0 w xb L hv hmv cv mv cb co S rv ov nv rs ts ps)
include h
theorem PlAt.upd {w' : World} (hu : Upd [] w w') : PlAt w0 w' xb L hv hmv cv mv cb co S rv ov nv rs ts ps :=
  ⟨hu.heap h.x (by simp), h.gc.upd hu, h.rt.upd hu (by simp), h.nm.upd hu (by simp), h.ob.low hu (by simp), h.cls.upd hu (by simp), h.lo, h.sp, h.ap⟩
theorem PlAt.lt : xb < w.heap.size := lt_of_heap h.x
/-- The rows' blocks. -/
theorem PlAt.new : (∀ k, rv.ownBlock = some k → xb + 1 ≤ k ∧ k < w.heap.size) ∧ (∀ k, nv.ownBlock = some k → xb + 1 ≤ k ∧ k < w.heap.size) ∧ (∀ k, ov.ownBlock = some k → xb + 1 ≤ k ∧ k < w.heap.size) ∧ ∀ p ∈ ps, xb + 1 ≤ p.b ∧ p.b < w.heap.size :=
  ⟨fun k hk => World.ownsRow.lt h.rt k hk, fun k hk => World.ownsRow.lt h.nm k hk, fun k hk => h.ob.out.lt k hk, fun p hp => ⟨(h.ob.vals p hp).2.2.1, lt_of_heap (h.ob.vals p hp).2.1⟩⟩
/-- The heap's own functions. -/
theorem PlAt.heap {w' : World} {L' : HL} {S' : Hp} (hu : Upd L.own w w') (hg : GcAt w0 w' L' hv hmv S') (hb : L'.hb = L.hb) (hs : ∀ i ∈ L'.all, i ∈ L.all ∨ w.heap.size ≤ i) (hcs : S'.cs = S.cs) : PlAt w0 w' xb L' hv hmv cv mv cb co S' rv ov nv rs ts ps := by
  obtain ⟨n1, n2, n3, n4⟩ := h.new
  have hx := h.lt
  have hlow : ∀ i ∈ L.own, w0.heap.size ≤ i := fun i hi => h.gc.lo i (HL.sub7 hi)
  refine ⟨?_, hg, h.rt.upd hu (fun k hk hm => (h.ap k (HL.sub hm)).2.1 hk), h.nm.upd hu (fun k hk hm => (h.ap k (HL.sub hm)).2.2.1 hk), h.ob.upd hu (fun k hk => ⟨(h.ap k (HL.sub hk)).2.2.2.1, (h.ap k (HL.sub hk)).2.2.2.2⟩), ?_, h.lo, h.sp, fun i hi => ?_⟩
  · rw [hb]
    exact hu.heap h.x (fun hm => (h.ap _ (HL.sub hm)).1 rfl)
  · rw [hcs]
    exact h.cls.upd hu (fun hm => by have := hlow _ hm; have := h.lo.1; omega)
  · rcases hs i hi with h1 | h1
    · exact h.ap i h1
    · exact ⟨by omega, fun e => by have := n1 i e; omega, fun e => by have := n2 i e; omega, fun e => by have := n3 i e; omega, fun p hp e => by have := n4 p hp; omega⟩
/-- A block of the play's own is written. -/
theorem PlAt.gcw {w' : World} {T : List Nat} (hu : Upd T w w') (hT : ∀ i ∈ T, i = xb ∨ rv.ownBlock = some i ∨ nv.ownBlock = some i ∨ ov.ownBlock = some i ∨ ∃ p ∈ ps, p.b = i) : GcAt w0 w' L hv hmv S ∧ ClsAt w' cv cb co S.cs := by
  obtain ⟨n1, n2, n3, n4⟩ := h.new
  have hlo := h.lo
  have hge : ∀ i ∈ T, xb ≤ i := fun i hi => by
    rcases hT i hi with e | e | e | e | ⟨p, hp, e⟩
    · omega
    · have := n1 i e; omega
    · have := n2 i e; omega
    · have := n3 i e; omega
    · have := n4 p hp; omega
  refine ⟨h.gc.updT hu (fun i hi => ⟨fun hm => ?_, ?_, ?_⟩), h.cls.upd hu (fun hm => ?_)⟩
  · obtain ⟨a1, a2, a3, a4, a5⟩ := h.ap i hm
    rcases hT i hi with e | e | e | e | ⟨p, hp, e⟩
    · exact a1 e
    · exact a2 e
    · exact a3 e
    · exact a4 e
    · exact a5 p hp e
  · have := hge i hi; omega
  · have := hge i hi; omega
  · have := hge _ hm; omega
/-- The roots' row is another. -/
theorem PlAt.roots {u : Value} {rs' : List Int} (ho : OwnI w (xb + 1) 3 u rs') (hap : ∀ i ∈ L.all, u.ownBlock ≠ some i) : PlAt w0 (w.setCell ⟨xb, 3, none⟩ u) xb L hv hmv cv mv cb co S u ov nv rs' ts ps := by
  have hu : Upd [xb] w (w.setCell ⟨xb, 3, none⟩ u) := (Upd.refl _ _).setCell (.inl (by simp)) _
  obtain ⟨n1, n2, n3, n4⟩ := h.new
  obtain ⟨g1, g2⟩ := h.gcw hu (fun i hi => .inl (by simpa using hi))
  have hx := heap_setCell h.x 3 u
  refine ⟨by simpa using hx, g1, ho.upd hu (fun k hk hm => by have := (World.ownsRow.lt ho k hk).1; simp at hm; omega), h.nm.upd hu (fun k hk hm => by have := (n2 k hk).1; simp at hm; omega), h.ob.low hu (fun k hk => by simp at hk; omega), g2, h.lo, h.sp, fun i hi => ?_⟩
  obtain ⟨a1, a2, a3, a4, a5⟩ := h.ap i hi
  exact ⟨a1, hap i hi, a3, a4, a5⟩
/-- A root is dropped. -/
theorem PlAt.root0 {g c : Nat} (hrv : rv = .slice (some ⟨g, 0, none⟩) rs.length c) (k : Nat) (x : Int) : PlAt w0 (w.setCell ⟨g, k, none⟩ (.int .i64 x)) xb L hv hmv cv mv cb co S rv ov nv (rs.set k x) ts ps := by
  have hu : Upd [g] w (w.setCell ⟨g, k, none⟩ (.int .i64 x)) := (Upd.refl _ _).setCell (.inl (by simp)) _
  obtain ⟨n1, n2, n3, n4⟩ := h.new
  have hg : rv.ownBlock = some g := by rw [hrv]; rfl
  have hgl := n1 g hg
  obtain ⟨g1, g2⟩ := h.gcw hu (fun i hi => .inr (.inl (by simp at hi; subst hi; exact hg)))
  have hrt := h.rt
  have hnm := h.nm
  have hob := h.ob
  refine ⟨hu.heap h.x (by simp; omega), g1, ?_, h.nm.upd hu (fun q hq hm => ?_), h.ob.upd hu (fun q hq => ?_), g2, h.lo, h.sp, h.ap⟩
  · rw [hrv] at hrt ⊢
    exact hrt.setk rfl k x
  · simp at hm
    exact own_ne hnm hrt (by decide) q hq (by rw [hm]; exact hg)
  · simp at hq
    refine ⟨fun e => own_ne hob.out hrt (by decide) q e (by rw [hq]; exact hg), fun p hp e => own_heap_ne2 hrt (hob.vals p hp).2.1 (by decide) (by rw [e, hq]; exact hg)⟩
/-- A number is another. -/
theorem PlAt.num1 {g c : Nat} (hnv : nv = .slice (some ⟨g, 0, none⟩) ts.length c) (k : Nat) (x : Int) : PlAt w0 (w.setCell ⟨g, k, none⟩ (.int .i64 x)) xb L hv hmv cv mv cb co S rv ov nv rs (ts.set k x) ps := by
  have hu : Upd [g] w (w.setCell ⟨g, k, none⟩ (.int .i64 x)) := (Upd.refl _ _).setCell (.inl (by simp)) _
  obtain ⟨n1, n2, n3, n4⟩ := h.new
  have hg : nv.ownBlock = some g := by rw [hnv]; rfl
  have hgl := n2 g hg
  obtain ⟨g1, g2⟩ := h.gcw hu (fun i hi => .inr (.inr (.inl (by simp at hi; subst hi; exact hg))))
  have hrt := h.rt
  have hnm := h.nm
  have hob := h.ob
  refine ⟨hu.heap h.x (by simp; omega), g1, h.rt.upd hu (fun q hq hm => ?_), ?_, h.ob.upd hu (fun q hq => ?_), g2, h.lo, h.sp, h.ap⟩
  · simp at hm
    exact own_ne hrt hnm (by decide) q hq (by rw [hm]; exact hg)
  · rw [hnv] at hnm ⊢
    exact hnm.setk rfl k x
  · simp at hq
    refine ⟨fun e => own_ne hob.out hnm (by decide) q e (by rw [hq]; exact hg), fun p hp e => h.sp p hp (by rw [e, hq]; exact hg)⟩
/-- A value of an object is another. -/
theorem PlAt.val (k : Nat) (hk : k < ps.length) (j : Nat) (x : Int) : PlAt w0 (w.setCell ⟨(ps[k]'hk).b, j, none⟩ (.int .i64 x)) xb L hv hmv cv mv cb co S rv ov nv rs ts (ps.set k ⟨(ps[k]'hk).c, (ps[k]'hk).xs.set j x, (ps[k]'hk).v, (ps[k]'hk).b⟩) := by
  have hm := h.ob.setv k hk j x
  have hu : Upd [(ps[k]'hk).b] w (w.setCell ⟨(ps[k]'hk).b, j, none⟩ (.int .i64 x)) := (Upd.refl _ _).setCell (.inl (by simp)) _
  obtain ⟨n1, n2, n3, n4⟩ := h.new
  have hpm := List.getElem_mem hk
  have hbl := n4 _ hpm
  obtain ⟨g1, g2⟩ := h.gcw hu (fun i hi => .inr (.inr (.inr (.inr ⟨_, hpm, (List.mem_singleton.1 hi).symm⟩))))
  have hbs : ∀ q ∈ ps.set k ⟨(ps[k]'hk).c, (ps[k]'hk).xs.set j x, (ps[k]'hk).v, (ps[k]'hk).b⟩, ∃ p ∈ ps, p.b = q.b := fun q hq => by
    rcases List.mem_or_eq_of_mem_set hq with h1 | h1
    · exact ⟨q, h1, rfl⟩
    · exact ⟨_, hpm, by rw [h1]⟩
  refine ⟨hu.heap h.x (by simp; omega), g1, h.rt.upd hu (fun q hq hm => ?_), h.nm.upd hu (fun q hq hm => ?_), hm, g2, h.lo, fun p hp => ?_, fun i hi => ?_⟩
  · simp at hm
    exact own_heap_ne2 h.rt (h.ob.vals _ hpm).2.1 (by decide) (by rw [← hm]; exact hq)
  · simp at hm
    exact h.sp _ hpm (by rw [← hm]; exact hq)
  · obtain ⟨p', hp', e⟩ := hbs p hp
    rw [← e]
    exact h.sp p' hp'
  · obtain ⟨a1, a2, a3, a4, a5⟩ := h.ap i hi
    refine ⟨a1, a2, a3, a4, fun p hp => ?_⟩
    obtain ⟨p', hp', e⟩ := hbs p hp
    rw [← e]
    exact a5 p' hp'
/-- The objects' row is grown. -/
theorem PlAt.pushO {w' : World} {ov' : Value} (q : OP) (hq : q.v = .slice (some ⟨q.b, 0, none⟩) q.xs.length q.xs.length) (hqb : w.heap[q.b]? = some (.cells (icells q.xs) 2)) (hqB : xb + 1 ≤ q.b) (hqu : ov.ownBlock ≠ some q.b) (hqn : ∀ p ∈ ps, p.b ≠ q.b) (hqs : nv.ownBlock ≠ some q.b) (hql : ∀ i ∈ L.all, q.b ≠ i)
    (hrow : w'.ownsRow (xb + 1) 106 2 ov' (ps.length + 1) (oflat ps ++ [Value.int .i64 q.c, q.v])) (hg : w.grownBy w' ov.ownBlock) (hat : ov'.ownBlock = ov.ownBlock ∨ ov'.ownBlock = some w.heap.size) :
    (∃ g c, ov' = .slice (some ⟨g, 0, none⟩) (ps.length + 1) c) ∧ w'.cell? ⟨xb, 4, none⟩ = some ov ∧ w'.frozen? ⟨xb, 4, none⟩ = false ∧ PlAt w0 (w'.setCell ⟨xb, 4, none⟩ ov') xb L hv hmv cv mv cb co S rv ov' nv rs ts (ps ++ [q]) := by
  have hu : Upd ov.ownBlock.toList w w' := (Upd.refl _ w).grown hg (fun k hk => Or.inl (Option.mem_toList.2 hk))
  obtain ⟨n1, n2, n3, n4⟩ := h.new
  have hx := h.lt
  have hxT : ∀ i ∈ ov.ownBlock.toList, xb + 1 ≤ i := fun i hi => (n3 i (Option.mem_toList.1 hi)).1
  have hx' := hu.heap h.x (fun hm => by have := hxT _ hm; omega)
  have hu2 : Upd (xb :: ov.ownBlock.toList) w (w'.setCell ⟨xb, 4, none⟩ ov') := (hu.mono (fun i hi _ => List.mem_cons_of_mem _ hi)).setCell (.inl (by simp)) _
  obtain ⟨g1, g2⟩ := h.gcw hu2 (fun i hi => by
    rcases List.mem_cons.1 hi with e | e
    · exact .inl e
    · exact .inr (.inr (.inr (.inl (Option.mem_toList.1 e)))))
  have hs := heap_setCell hx' 4 ov'
  have hm := h.ob.push q hq hqb hqB hqu hqn hrow hg hat
  have hform : ∃ g c, ov' = .slice (some ⟨g, 0, none⟩) (ps.length + 1) c := by
    rcases hrow.2 with ⟨_, hz⟩ | ⟨g, c', _, hv, _⟩
    · omega
    · exact ⟨g, c', hv⟩
  refine ⟨hform, by rw [cell_of hx']; rfl, froz_of hx' 4, by simpa using hs, g1, h.rt.upd hu2 (fun k hk hm => ?_), h.nm.upd hu2 (fun k hk hm => ?_), hm.low ((Upd.refl [xb] w').setCell (.inl (by simp)) _) (fun k hk => by simp at hk; omega), g2, h.lo, fun p hp => ?_, fun i hi => ?_⟩
  · rcases List.mem_cons.1 hm with e | e
    · have := (n1 k hk).1; omega
    · exact own_ne h.rt h.ob.out (by decide) k hk (Option.mem_toList.1 e)
  · rcases List.mem_cons.1 hm with e | e
    · have := (n2 k hk).1; omega
    · exact own_ne h.nm h.ob.out (by decide) k hk (Option.mem_toList.1 e)
  · rcases List.mem_append.1 hp with e | e
    · exact h.sp p e
    · rw [List.mem_singleton.1 e]; exact hqs
  · obtain ⟨a1, a2, a3, a4, a5⟩ := h.ap i hi
    refine ⟨a1, a2, a3, ?_, fun p hp => ?_⟩
    · rcases hat with e | e
      · rw [e]; exact a4
      · rw [e]
        intro e2
        injection e2 with e2
        have := h.gc.hi i hi
        omega
    · rcases List.mem_append.1 hp with e | e
      · exact a5 p e
      · rw [List.mem_singleton.1 e]; exact hql i hi
/-- The numbers' row is grown. -/
theorem PlAt.pushN {w' : World} {nv' : Value} (x : Int) (hrow : w'.ownsRow (xb + 1) 2 1 nv' (ts.length + 1) (ts.map (Value.int .i64) ++ [.int .i64 x])) (hg : w.grownBy w' nv.ownBlock) (hat : nv'.ownBlock = nv.ownBlock ∨ nv'.ownBlock = some w.heap.size) :
    (∃ g c, nv' = .slice (some ⟨g, 0, none⟩) (ts.length + 1) c) ∧ w'.cell? ⟨xb, 5, none⟩ = some nv ∧ w'.frozen? ⟨xb, 5, none⟩ = false ∧ w'.cell? ⟨xb, 4, none⟩ = some ov ∧ PlAt w0 (w'.setCell ⟨xb, 5, none⟩ nv') xb L hv hmv cv mv cb co S rv ov nv' rs (ts ++ [x]) ps := by
  have hu : Upd nv.ownBlock.toList w w' := (Upd.refl _ w).grown hg (fun k hk => Or.inl (Option.mem_toList.2 hk))
  obtain ⟨n1, n2, n3, n4⟩ := h.new
  have hx := h.lt
  have hxT : ∀ i ∈ nv.ownBlock.toList, xb + 1 ≤ i := fun i hi => (n2 i (Option.mem_toList.1 hi)).1
  have hx' := hu.heap h.x (fun hm => by have := hxT _ hm; omega)
  have hu2 : Upd (xb :: nv.ownBlock.toList) w (w'.setCell ⟨xb, 5, none⟩ nv') := (hu.mono (fun i hi _ => List.mem_cons_of_mem _ hi)).setCell (.inl (by simp)) _
  obtain ⟨g1, g2⟩ := h.gcw hu2 (fun i hi => by
    rcases List.mem_cons.1 hi with e | e
    · exact .inl e
    · exact .inr (.inr (.inl (Option.mem_toList.1 e))))
  have hs := heap_setCell hx' 5 nv'
  have hform : ∃ g c, nv' = .slice (some ⟨g, 0, none⟩) (ts.length + 1) c := by
    rcases hrow.2 with ⟨_, hz⟩ | ⟨g, c', _, hv, _⟩
    · omega
    · exact ⟨g, c', hv⟩
  have hne : ∀ k, k < w.heap.size → nv.ownBlock ≠ some k → nv'.ownBlock ≠ some k := fun k h1 h2 h3 => by
    rcases hat with e | e
    · exact h2 (e ▸ h3)
    · rw [e] at h3; injection h3 with h3; omega
  refine ⟨hform, by rw [cell_of hx']; rfl, froz_of hx' 5, by rw [cell_of hx']; rfl, by simpa using hs, g1, h.rt.upd hu2 (fun k hk hm => ?_), ?_, h.ob.upd hu2 (fun k hk => ?_), g2, h.lo, fun p hp => hne _ (n4 p hp).2 (h.sp p hp), fun i hi => ?_⟩
  · rcases List.mem_cons.1 hm with e | e
    · have := (n1 k hk).1; omega
    · exact own_ne h.rt h.nm (by decide) k hk (Option.mem_toList.1 e)
  · exact (OwnI.snoc hrow).upd ((Upd.refl [xb] w').setCell (.inl (by simp)) _) (fun k hk hm => by
      have := (World.ownsRow.lt hrow k hk).1
      simp at hm; omega)
  · rcases List.mem_cons.1 hk with e | e
    · exact ⟨fun e2 => by have := n3 k e2; omega, fun p hp e2 => by have := n4 p hp; omega⟩
    · have e := Option.mem_toList.1 e
      exact ⟨fun e2 => own_ne h.ob.out h.nm (by decide) k e2 e, fun p hp e2 => h.sp p hp (by rw [e2]; exact e)⟩
  · obtain ⟨a1, a2, a3, a4, a5⟩ := h.ap i hi
    exact ⟨a1, a2, hne i (h.gc.hi i hi) a3, a4, a5⟩
/-- Its cells. -/
theorem PlAt.cells : w.cell? ⟨xb, 0, none⟩ = some cv ∧ w.cell? ⟨xb, 1, none⟩ = some mv ∧ w.cell? ⟨xb, 2, none⟩ = some (.pointer (some ⟨L.hb, 0, none⟩)) ∧ w.cell? ⟨xb, 3, none⟩ = some rv ∧ w.cell? ⟨xb, 4, none⟩ = some ov ∧ w.cell? ⟨xb, 5, none⟩ = some nv := by
  have hx := h.x
  exact ⟨by rw [cell_of hx]; rfl, by rw [cell_of hx]; rfl, by rw [cell_of hx]; rfl, by rw [cell_of hx]; rfl, by rw [cell_of hx]; rfl, by rw [cell_of hx]; rfl⟩
end
end Go.Proofs.YtneeljhjfmcdoaaDoor

/-! GcPlays: the play's small functions: words, same, just. -/
namespace Go.Proofs.YtneeljhjfmcdoaaDoor
open Go.RowKit

theorem wordsO_le12 : ∀ l : List (Int × List Int), (∀ o ∈ l, o.2.length ≤ 100000) → 0 ≤ wordsO l ∧ wordsO l ≤ 100002 * (l.length : Int)
  | [], _ => by simp [wordsO]
  | a :: t, h => by
    have ih := wordsO_le12 t (fun o ho => h o (List.mem_cons_of_mem _ ho))
    have ha := h a (by simp)
    simp only [wordsO, List.length_cons]
    omega

set_option maxRecDepth 100000 in
set_option maxHeartbeats 2000000 in
theorem words12_any (cv mv uv : Value) (cb co : Nat) (cs : List ByteArray) (os : List (Int × List Int)) (w : World) (h : ClsAt w cv cb co cs) (ho : ObjsV w uv os) (hcs : cs.length ≤ 1000) (hz : ∀ c ∈ cs, c.size ≤ 10)
    (hos : ∀ o ∈ os, o.1 < cs.length ∧ (0 ≤ o.1 → o.2.length = (cs.getD o.1.toNat ByteArray.empty).size) ∧ o.2.length ≤ 100000) (hn : os.length ≤ 100000) :
    Calls Tryd.prog 61 #[.agg #[cv, mv], uv] w fun e w' => e = .returned (.int .i64 (wordsO os)) ∧ Upd [] w w' := by
  obtain ⟨p, cap, rfl⟩ := ho.shape
  obtain ⟨cp, cc, rfl⟩ := h.shape
  have HB0 := Lib.hid (heap_alloc_new w (.cells #[.slice cp cs.length cc, mv] 28))
  have HU0 := Lib.hid ((Upd.refl [] w).alloc (.cells #[.slice cp cs.length cc, mv] 28))
  have HC := Lib.hid h
  have HO := Lib.hid ho
  have HZ := Lib.hid hz
  have HOS := Lib.hid hos
  clear h ho hz hos
  go_enter Tryd.func61, Tryd.ntmps61
  go_wp2_with fail
  generalize w.alloc (.cells #[.slice cp cs.length cc, mv] 28) = w1 at HB0 HU0 ⊢
  go_loopw [5, 6] (fun nv iv wr => ∃ i : Nat, i ≤ os.length ∧ iv = .int .i64 i ∧ nv = .int .i64 (wordsO (os.take i)) ∧ Hid (wr.heap[w.heap.size]? = some (.cells #[.slice cp cs.length cc, mv] 28)) ∧ Hid (Upd [] w wr)) (fun _ iv _ => os.length - (intOf iv).toNat)
  case atStart => exact ⟨0, by omega, rfl, rfl, HB0.out, HU0.out⟩
  case round =>
    clear HB0 HU0
    obtain ⟨i, hi, rfl, rfl, HB, HU⟩ := hrel
    obtain ⟨wo, rfl⟩ : ∃ w' : World, w' = wr := ⟨_, rfl⟩
    by_cases hlt : i < os.length
    · have e1 : decide ((i : Int) < (os.length : Int)) = true := decide_eq_true (by omega)
      obtain ⟨ub, q, c, b, rfl, c1, c2, _⟩ := (HO.out.upd HU.out).nth i hlt
      have hmem : os.getD i (0, []) ∈ os := by rw [List.getD_eq_getElem?_getD, List.getElem?_eq_getElem hlt]; exact List.getElem_mem hlt
      obtain ⟨o1, o2, o3⟩ := HOS.out _ hmem
      have HS : Hid (wordsO (os.take (i + 1)) = wordsO (os.take i) + (2 + ((os.getD i (0, [])).2.length : Int))) := by
        show _ = _
        rw [List.take_succ_eq_append_getElem hlt, wordsO_app, List.getD_eq_getElem?_getD, List.getElem?_eq_getElem hlt]
        simp only [wordsO, Option.getD_some]
        omega
      have hwb := wordsO_le12 (os.take i) (fun o ho => (HOS.out o (List.mem_of_mem_take ho)).2.2)
      rw [List.length_take, Nat.min_eq_left hi] at hwb
      have hwant : wantN cs (os.getD i (0, [])).1 ((os.getD i (0, [])).2.length : Int) = ((os.getD i (0, [])).2.length : Int) := by
        unfold wantN
        split
        · rename_i h0
          rw [← o2 h0]
        · rfl
      have HWD : Hid (∀ w' : World, Upd [] wo w' → Calls Tryd.prog 34 #[.agg #[.slice cp cs.length cc, mv], .int .i64 (os.getD i (0, [])).1, .int .i64 ((os.getD i (0, [])).2.length : Int)] w' fun e w'' => e = .returned (.int .i64 (2 + ((os.getD i (0, [])).2.length : Int))) ∧ Upd [] w' w'') := fun w' hu => by
        have h9 := words3_any (.slice cp cs.length cc) mv cb co (os.getD i (0, [])).1 ((os.getD i (0, [])).2.length : Int) cs w' ((HC.out.upd HU.out (by simp)).upd hu (by simp)) o1 hcs HZ.out (by omega) (by omega)
        rw [hwant] at h9
        exact h9
      have b0 : wo.cell? ⟨w.heap.size, 0, none⟩ = some (.slice cp cs.length cc) := by rw [cell_of HB.out]; rfl
      have b1 : wo.cell? ⟨w.heap.size, 1, none⟩ = some mv := by rw [cell_of HB.out]; rfl
      clear o1 o2 hmem hwant
      generalize (os.getD i (0, [])).1 = oc at c1 HWD
      generalize (os.getD i (0, [])).2.length = ol at c2 HWD HS o3
      generalize wordsO (os.take i) = n0 at HS hwb ⊢
      have hu1 : Upd [] wo wo.drew := (Upd.refl _ _).drew
      have z0 := hu1.cell b0 (by simp)
      have z1 := hu1.cell b1 (by simp)
      have y1 := hu1.cell c1 (by simp)
      have y2 := hu1.cell c2 (by simp)
      have hsum : IntKind.i64.wrap (n0 + (2 + (ol : Int))) = n0 + (2 + (ol : Int)) := IntWalk.i64_in _ (by omega)
      go_wp2_with fail
      go_region_held3 (fun w' => w'.cell? ⟨w.heap.size, 0, none⟩ = some (.slice cp cs.length cc) ∧ w'.cell? ⟨w.heap.size, 1, none⟩ = some mv ∧ w'.cell? ⟨ub, i * 2, none⟩ = some (.int .i64 oc) ∧ w'.cell? ⟨ub, i * 2 + 1, none⟩ = some (.slice q ol c))
        (first | exact ⟨k0, k1, k2, k3⟩ | exact ⟨z0, z1, y1, y2⟩ | exact ⟨b0, b1, c1, c2⟩)
        ((go_at_call 34; refine (HWD.out _ hu1).mono ?_; rintro e w3 ⟨rfl, hu3⟩; have k0 := hu3.cell z0 (by simp); have k1 := hu3.cell z1 (by simp); have k2 := hu3.cell y1 (by simp); have k3 := hu3.cell y2 (by simp)))
      have HU3 := Lib.hid ((HU.out.trans hu1).trans hu3)
      have HB3 := Lib.hid ((hu1.trans hu3).heap HB.out (by simp))
      clear k0 k1 k2 k3 z0 z1 y1 y2 b0 b1 c1 c2 hsum
      clear hu1 hu3 HWD HU HB
      go_wp2_with fail
      go_roundw
      case rel => exact ⟨i + 1, by omega, by go_num, by rw [HS.out], HB3.out, HU3.out⟩
      case measure => simp [intOf]; omega
    · obtain rfl : i = os.length := by omega
      rw [List.take_length]
      have e1 : decide ((os.length : Int) < (os.length : Int)) = false := decide_eq_false (by omega)
      go_wp2_with fail
      go_ret
      exact ⟨rfl, HU.out⟩

/-- What the functions of a play are called with. -/
structure PlOk (k : Nat) (S : Hp) (R : Int → Int → Prop) (rs ts : List Int) (ps : List OP) : Prop where
  bd : Bd S R (ps.map OP.o)
  rt : RtR R rs ts
  few : ps.length ≤ k
  fewr : rs.length ≤ k
  k : k ≤ 90
  os : ∀ p ∈ ps, p.c < S.cs.length ∧ (0 ≤ p.c → p.xs.length = (S.cs.getD p.c.toNat ByteArray.empty).size) ∧ p.xs.length ≤ 20

section
variable {w0 w : World} {xb : Nat} {L : HL} {hv hmv cv mv : Value} {cb co : Nat} {S : Hp} {rv ov nv : Value} {rs ts : List Int} {ps : List OP}
theorem shape_few (S : Hp) (hS : S.Ok) (rs : List Int) : (S.shape rs).1.length ≤ 65536 := by
  rw [reach_len hS]
  have := (reach_inN hS rs).le
  have := hS.len
  omega
theorem reach_own (h : PlAt w0 w xb L hv hmv cv mv cb co S rv ov nv rs ts ps) : ∃ p c rb, rv = .slice p rs.length c ∧ (rs = [] ∨ p = some ⟨rb, 0, none⟩) ∧ (∀ i, i < rs.length → w.cell? ⟨rb, i, none⟩ = some (.int .i64 (rs.getD i 0))) := by
  obtain ⟨p, c, rb, h1, h2, h3, _⟩ := own_arg h.rt
  exact ⟨p, c, rb, h1, h2, h3⟩

set_option maxRecDepth 100000 in
set_option maxHeartbeats 4000000 in
theorem same12_any (h : PlAt w0 w xb L hv hmv cv mv cb co S rv ov nv rs ts ps) {R : Int → Int → Prop} {kk : Nat} (hk : PlOk kk S R rs ts ps) :
    Calls Tryd.prog 31 #[.pointer (some ⟨xb, 0, none⟩)] w fun e w' => e = .returned (.bool true) ∧ Upd [] w w' := by
  obtain ⟨pr, cr, rb, rfl, hpr, hcr⟩ := reach_own h
  obtain ⟨po, co', rfl⟩ := h.ob.form
  obtain ⟨bn, hin, _⟩ := h.nm.ints
  obtain ⟨pn, cn, rfl⟩ := hin.form
  obtain ⟨cp, cc, rfl⟩ := h.cls.shape
  have hrts := hk.bd
  have hro := hk.rt.roots hk.bd
  have hrng := h.gc.rng hro
  have hsh := hk.bd.shape h.gc.hp.ok hk.rt
  have hS := h.gc.hp.ok
  have HSH : Hid (∀ w', Upd [] w w' → Calls Tryd.prog 21 #[.pointer (some ⟨L.hb, 0, none⟩), .slice pr rs.length cr] w' fun e w'' => ∃ uv av ub ac bn ap, e = .returned (.tuple #[uv, .slice ap (S.shape rs).2.length ac]) ∧ ObjsV w'' uv (S.shape rs).1 ∧ IntsV w'' (.slice ap (S.shape rs).2.length ac) bn (S.shape rs).2 ∧ Upd [] w' w'' ∧ uv = .slice ub (S.shape rs).1.length av) := fun w' hu => by
    refine (gshape (h.gc.upd hu) pr cr rb rs (by have := hk.fewr; have := hk.k; omega) hpr (fun i hi => hu.cell (hcr i hi) (by simp)) hrng).mono ?_
    rintro e w'' ⟨uv, av, ps', ov', od, rfl, hout, hps, hu'⟩
    have h1 := hout.objsV hps
    obtain ⟨b, h2⟩ := hout.nums
    obtain ⟨q, k, e1⟩ := h1.shape
    obtain ⟨q2, k2, e2⟩ := h2.form
    rw [e2] at h2
    exact ⟨uv, k, q, k2, b, q2, by rw [e2], h1, h2, hu', e1⟩
  have HRS : Hid (∀ w', Upd [] w w' → Calls Tryd.prog 64 #[.agg #[.slice cp S.cs.length cc, mv], .slice po ps.length co', .slice pn ts.length cn] w' fun e w'' => ∃ uv av ub ac bn ap, e = .returned (.tuple #[uv, .slice ap (S.shape rs).2.length ac]) ∧ ObjsV w'' uv (S.shape rs).1 ∧ IntsV w'' (.slice ap (S.shape rs).2.length ac) bn (S.shape rs).2 ∧ Upd [] w' w'' ∧ uv = .slice ub (S.shape rs).1.length av) := fun w' hu => by
    have hob := (h.ob.low hu (by simp)).objs
    refine (rshape_any S.cs (.slice cp S.cs.length cc) mv (.slice po ps.length co') (.slice pn ts.length cn) cb co bn (ps.map OP.o) ts w' (h.cls.upd hu (by simp)) hob (hin.upd hu (.inr (by simp))) (by rw [List.length_map]; have := hk.few; have := hk.k; omega) (by have := hk.fewr; have := hk.rt.1; have := hk.k; omega) (by have := hS.few; omega) (fun o ho => by
      obtain ⟨p, hp, rfl⟩ := List.mem_map.1 ho
      obtain ⟨a1, a2, a3⟩ := hk.os p hp
      exact ⟨by show p.xs.length ≤ _; omega, fun h0 => ⟨a1, a2 h0⟩⟩)).mono ?_
    rintro e w'' ⟨uv, av, ps', ov', od, rfl, hst, hps, hu'⟩
    have h1 := objsV_row2 hst.out (fun z hz => (hst.vals z hz).1)
    rw [hps] at h1
    obtain ⟨b, h2, _⟩ := IntsV.of_row hst.ats
    rw [List.length_map] at h1 h2
    rw [List.length_map] at hsh
    rw [← hsh] at h1 h2
    obtain ⟨q, k, e1⟩ := h1.shape
    obtain ⟨q2, k2, e2⟩ := h2.form
    rw [e2] at h2
    exact ⟨uv, k, q, k2, b, q2, by rw [e2], h1, h2, hu', e1⟩
  have HVC : Hid (∀ w', Upd [] w w' → Calls Tryd.prog 26 #[.pointer (some ⟨L.hb, 0, none⟩), .slice pr rs.length cr] w' fun e w'' => e = .returned (.bool true) ∧ Upd [] w' w'') := fun w' hu =>
    gverify (h.gc.upd hu) pr cr rb rs (by have := hk.fewr; have := hk.k; omega) hpr (fun i hi => hu.cell (hcr i hi) (by simp)) hro
  have HSZ := Lib.hid (fun o ho => (shape_sizes hS rs o ho).2.2)
  have HFW := Lib.hid (shape_few S hS rs)
  have HNM : Hid ((S.shape rs).2.length ≤ 1000) := by show _ ≤ _; rw [shape_nums]; have := hk.fewr; have := hk.k; omega
  obtain ⟨x0, x1, x2, x3, x4, x5⟩ := h.cells
  clear hpr hcr hin hrts hro hrng hsh hS hk h
  generalize (S.shape rs).1 = os at HSH HRS HSZ HFW
  generalize (S.shape rs).2 = ns at HSH HRS HNM
  go_enter Tryd.func31, Tryd.ntmps31
  go_wp2_with fail
  have hu1 : Upd [] w w.drew := (Upd.refl _ _).drew
  have z2 := hu1.cell x2 (by simp)
  have z3 := hu1.cell x3 (by simp)
  go_region_held3 (fun w' => w'.cell? ⟨xb, 2, none⟩ = some (.pointer (some ⟨L.hb, 0, none⟩)) ∧ w'.cell? ⟨xb, 3, none⟩ = some (.slice pr rs.length cr))
    (first | exact ⟨k0, k1⟩ | exact ⟨z2, z3⟩ | exact ⟨x2, x3⟩)
    ((go_at_call 21; refine (HSH.out _ hu1).mono ?_; rintro e w2 ⟨uv, av, ub, ac, bn1, ap, rfl, ho2, hn2, hu2, rfl⟩; have k0 := hu2.cell z2 (by simp); have k1 := hu2.cell z3 (by simp)))
  have hu2 := hu1.trans hu2
  clear k0 k1 z2 z3
  have y0 := hu2.cell x0 (by simp)
  have y1 := hu2.cell x1 (by simp)
  have y2 := hu2.cell x2 (by simp)
  have y3 := hu2.cell x3 (by simp)
  have y4 := hu2.cell x4 (by simp)
  have y5 := hu2.cell x5 (by simp)
  have HO2 := Lib.hid ho2
  have HN2 := Lib.hid hn2
  have HX : Hid (w.cell? ⟨xb, 2, none⟩ = some (.pointer (some ⟨L.hb, 0, none⟩)) ∧ w.cell? ⟨xb, 3, none⟩ = some (.slice pr rs.length cr)) := ⟨x2, x3⟩
  clear hu1 ho2 hn2 x0 x1 x2 x3 x4 x5 HSH
  go_wp2_with fail
  have hu23 : Upd [] w2 w2.drew := (Upd.refl _ _).drew
  have hu3 := hu2.trans hu23
  have z0 := hu23.cell y0 (by simp)
  have z1 := hu23.cell y1 (by simp)
  have z4 := hu23.cell y4 (by simp)
  have z5 := hu23.cell y5 (by simp)
  go_region_held3 (fun w' => w'.cell? ⟨xb, 0, none⟩ = some (.slice cp S.cs.length cc) ∧ w'.cell? ⟨xb, 1, none⟩ = some mv ∧ w'.cell? ⟨xb, 4, none⟩ = some (.slice po ps.length co') ∧ w'.cell? ⟨xb, 5, none⟩ = some (.slice pn ts.length cn))
    (first | exact ⟨k0, k1, k4, k5⟩ | exact ⟨z0, z1, z4, z5⟩ | exact ⟨y0, y1, y4, y5⟩)
    ((go_at_call 64; refine (HRS.out _ hu3).mono ?_; rintro e w4 ⟨uv4, av4, ub4, ac4, bn4, ap4, rfl, ho4, hn4, hu4, rfl⟩; have k0 := hu4.cell z0 (by simp); have k1 := hu4.cell z1 (by simp); have k4 := hu4.cell z4 (by simp); have k5 := hu4.cell z5 (by simp)))
  clear y0 y1 y2 y3 y4 y5 z0 z1 z4 z5 k0 k1 k4 k5
  have hu04 := hu3.trans hu4
  have y2 := hu04.cell HX.out.1 (by simp)
  have y3 := hu04.cell HX.out.2 (by simp)
  have HO24 := Lib.hid ((HO2.out.upd hu23).upd hu4)
  have HN24 := Lib.hid ((HN2.out.upd hu23 (.inr (by simp))).upd hu4 (.inr (by simp)))
  have HSO := Lib.hid (sobjs _ _ os os w4.drew (HO24.out.upd (Upd.refl _ _).drew) (ho4.upd (Upd.refl _ _).drew) (by have := HFW.out; omega) HSZ.out)
  rw [decide_eq_true (rfl : os = os)] at HSO
  have HSI : Hid (∀ w', Upd [] w4 w' → Calls Tryd.prog 16 #[.slice ap ns.length ac, .slice ap4 ns.length ac4] w' fun e w'' => e = .returned (.bool true) ∧ Upd [] w' w'') := fun w' hu => by
    have h9 := sints _ _ bn1 bn4 ns ns w' (HN24.out.upd hu (.inr (by simp))) (hn4.upd hu (.inr (by simp))) (by have := HNM.out; omega)
    rw [decide_eq_true (rfl : ns = ns)] at h9
    exact h9
  have HU4 := Lib.hid hu04
  have z2 := ((Upd.refl [] w4).drew).cell y2 (by simp)
  have z3 := ((Upd.refl [] w4).drew).cell y3 (by simp)
  clear ho4 hn4 hu3 hu23 hu2 hu4 hu04 HRS HO2 HN2
  go_wp2_with fail
  go_region_held3 (fun w' => w'.cell? ⟨xb, 2, none⟩ = some (.pointer (some ⟨L.hb, 0, none⟩)) ∧ w'.cell? ⟨xb, 3, none⟩ = some (.slice pr rs.length cr))
    (first | exact ⟨m0, m1⟩ | exact ⟨l0, l1⟩ | exact ⟨k0, k1⟩ | exact ⟨z2, z3⟩)
    (first | (go_at_call 22; refine HSO.out.mono ?_; rintro e w5 ⟨rfl, hu5⟩; have k0 := hu5.cell (p := ⟨xb, 2, none⟩) z2 (by simp); have k1 := hu5.cell (p := ⟨xb, 3, none⟩) z3 (by simp)) | (go_at_call 16; refine (HSI.out _ ((Upd.refl [] w4).drew.trans hu5)).mono ?_; rintro e w6 ⟨rfl, hu6⟩; have l0 := hu6.cell k0 (by simp); have l1 := hu6.cell k1 (by simp)) | (go_at_call 26; refine (HVC.out _ (HU4.out.trans (((Upd.refl [] w4).drew.trans hu5).trans hu6))).mono ?_; rintro e w7 ⟨rfl, hu7⟩; have m0 := hu7.cell l0 (by simp); have m1 := hu7.cell l1 (by simp)))
  have HU := Lib.hid (HU4.out.trans ((((Upd.refl [] w4).drew.trans hu5).trans hu6).trans hu7))
  clear k0 k1 l0 l1 m0 m1 z2 z3 hu5 hu6 hu7
  go_wp2_with fail
  go_ret
  exact ⟨rfl, HU.out⟩

set_option maxRecDepth 100000 in
set_option maxHeartbeats 4000000 in
theorem just_any (h : PlAt w0 w xb L hv hmv cv mv cb co S rv ov nv rs ts ps) {R : Int → Int → Prop} {kk : Nat} (hk : PlOk kk S R rs ts ps) (x : Int) (hx : S.h0.to - S.h0.fr - x = wordsO (S.shape rs).1) (hxb : -9000000 ≤ x ∧ x ≤ 9000000) :
    Calls Tryd.prog 63 #[.pointer (some ⟨xb, 0, none⟩), .int .i64 x] w fun e w' => e = .returned (.bool true) ∧ Upd [] w w' := by
  obtain ⟨pr, cr, rb, rfl, hpr, hcr⟩ := reach_own h
  obtain ⟨cp, cc, rfl⟩ := h.cls.shape
  have hro := hk.rt.roots hk.bd
  have hrng := h.gc.rng hro
  have hS := h.gc.hp.ok
  have HSH : Hid (∀ w', Upd [] w w' → Calls Tryd.prog 21 #[.pointer (some ⟨L.hb, 0, none⟩), .slice pr rs.length cr] w' fun e w'' => ∃ uv av ub ac bn ap, e = .returned (.tuple #[uv, .slice ap (S.shape rs).2.length ac]) ∧ ObjsV w'' uv (S.shape rs).1 ∧ IntsV w'' (.slice ap (S.shape rs).2.length ac) bn (S.shape rs).2 ∧ Upd [] w' w'' ∧ uv = .slice ub (S.shape rs).1.length av) := fun w' hu => by
    refine (gshape (h.gc.upd hu) pr cr rb rs (by have := hk.fewr; have := hk.k; omega) hpr (fun i hi => hu.cell (hcr i hi) (by simp)) hrng).mono ?_
    rintro e w'' ⟨uv, av, ps', ov', od, rfl, hout, hps, hu'⟩
    have h1 := hout.objsV hps
    obtain ⟨b, h2⟩ := hout.nums
    obtain ⟨q, k, e1⟩ := h1.shape
    obtain ⟨q2, k2, e2⟩ := h2.form
    rw [e2] at h2
    exact ⟨uv, k, q, k2, b, q2, by rw [e2], h1, h2, hu', e1⟩
  have HH := Lib.hid h
  have HSZ := Lib.hid (shape_sizes hS rs)
  have HFW := Lib.hid (shape_few S hS rs)
  have hS4 := hS.few
  have HSM := Lib.hid hS.small
  obtain ⟨r0, r1, r2, r3⟩ := hS.sp0 1
  have e1 : S.sp 1 = S.h0 := rfl
  rw [e1] at r0 r1 r2 r3
  have hlen := hS.len
  obtain ⟨x0, x1, x2, x3, x4, x5⟩ := h.cells
  clear hpr hcr hro hrng hk h hS
  generalize (S.shape rs).1 = os at HSH HSZ HFW hx
  generalize (S.shape rs).2 = ns at HSH
  go_enter Tryd.func63, Tryd.ntmps63
  go_wp2_with fail
  have hu1 : Upd [] w w.drew := (Upd.refl _ _).drew
  have z2 := hu1.cell x2 (by simp)
  have z3 := hu1.cell x3 (by simp)
  go_region_held3 (fun w' => w'.cell? ⟨xb, 2, none⟩ = some (.pointer (some ⟨L.hb, 0, none⟩)) ∧ w'.cell? ⟨xb, 3, none⟩ = some (.slice pr rs.length cr))
    (first | exact ⟨k0, k1⟩ | exact ⟨z2, z3⟩ | exact ⟨x2, x3⟩)
    ((go_at_call 21; refine (HSH.out _ hu1).mono ?_; rintro e w2 ⟨uv, av, ub, ac, bn1, ap, rfl, ho2, hn2, hu2, rfl⟩; have k0 := hu2.cell z2 (by simp); have k1 := hu2.cell z3 (by simp)))
  have hu2 := hu1.trans hu2
  clear k0 k1 z2 z3
  have y2 := hu2.cell x2 (by simp)
  have HO2 := Lib.hid ho2
  have HX : Hid (w.cell? ⟨xb, 0, none⟩ = some (.slice cp S.cs.length cc) ∧ w.cell? ⟨xb, 1, none⟩ = some mv) := ⟨x0, x1⟩
  have HU2 := Lib.hid hu2
  have HSZC := Lib.hid (size_any L hv hmv S w2 (HH.out.gc.upd hu2).hp)
  have HXE := Lib.hid hx
  have hhb : -70000 ≤ S.h0.to - S.h0.fr ∧ S.h0.to - S.h0.fr ≤ 70000 := by omega
  clear hu1 ho2 hn2 hu2 x0 x1 x2 x3 x4 x5 HSH hx r0 r1 r2 r3
  go_wp2_with fail
  refine HSZC.out.mono ?_
  rintro e w3' ⟨rfl, n3, hw3⟩
  have hu3 := (Upd.refl [] w2).drewN n3
  rw [← hw3] at hu3
  obtain ⟨w3, rfl⟩ : ∃ w' : World, w' = w3' := ⟨_, rfl⟩
  have HU3 := Lib.hid (HU2.out.trans hu3)
  have y0 := HU3.out.cell HX.out.1 (by simp)
  have y1 := HU3.out.cell HX.out.2 (by simp)
  have HWC := Lib.hid (words12_any (.slice cp S.cs.length cc) mv (.slice ub os.length av) cb co S.cs os w3 (HH.out.cls.upd HU3.out (by simp)) (HO2.out.upd hu3) (by omega) HSM.out HSZ.out (by have := HFW.out; omega))
  rw [← HXE.out] at HWC
  clear hw3 hu3 y2 HSZC HXE
  generalize S.h0.to - S.h0.fr = hf at HWC hhb ⊢
  go_wp2_with fail
  refine HWC.out.mono ?_
  rintro e w4 ⟨rfl, hu4⟩
  have HU := Lib.hid (HU3.out.trans hu4)
  clear hu4 y0 y1
  have hbe : ((hf - x) == (hf - x)) = true := by simp
  go_wp2_with fail
  go_ret
  exact ⟨rfl, HU.out⟩
end
end Go.Proofs.YtneeljhjfmcdoaaDoor
