/- model.Peak: plain and in memory. -/
import Derived.Test.YtojobkhidlfeoaaGreatDoorPkC
import Derived.Test.YtojobkhidlfeoaaGreatDoorWdV
import Derived.Test.YtojobkhidlfeoaaGreatDoorMdH
namespace Go.Proofs.YtojobkhidlfeoaaGreatDoor
open Go.RowKit

/-- The greatest words of frames ahead of a step. -/
def Mc.pkB (p : Prg) (ss : List Lk) : Nat → Mc → Int
 | 0, _ => 0
 | k + 1, S => max (Mc.pkB p ss k S) ((Mc.steps p k S).wsum p ss)
theorem pkF_pkB (p : Prg) (ss : List Lk) (S : Mc) : ∀ k, Mc.pkF p ss k S = max (Mc.pkB p ss k S) ((Mc.steps p k S).wsum p ss)
 | 0 => rfl
 | k + 1 => by
  show max (Mc.pkF p ss k S) ((Mc.steps p (k + 1) S).wsum p ss) = max (max (Mc.pkB p ss k S) ((Mc.steps p k S).wsum p ss)) ((Mc.steps p (k + 1) S).wsum p ss)
  rw [pkF_pkB p ss S k]
def Mc.ms (S : Mc) : List Nat := S.frs.map Fm.m
/-- A step leaves the methods, or one more is begun, or one is left. -/
theorem step_ms {p : Prg} {S : Mc} {f : Fm} {below : List Fm} (h : S.fin = none) (hf : S.frs = f :: below) :
  (S.step p).ms = S.ms ∨ ((S.step p).fin = none ∧ ∃ m, (S.step p).ms = m :: S.ms) ∨ (S.step p).ms = below.map Fm.m := by
 rw [Mc.step_on h hf]
 have hm : S.ms = f.m :: below.map Fm.m := by
  unfold Mc.ms
  rw [hf]
  rfl
 unfold Mc.stepF
 simp only
 split
 ·left
  split
  ·rw [hm]; rfl
  ·split
   ·rfl
   ·rw [hm]; rfl
 ·split
  ·split
   ·left; rfl
   ·right; left
    exact ⟨h, (p.at_ f.m f.pc).a.toNat, by rw [hm]; rfl⟩
  ·split
   ·right; right
    split
    ·rfl
    ·rfl
   ·left
    split
    ·rfl
    ·rw [hm]; rfl
/-- How it ended, the frames are no more than they were. -/
theorem end_ms {p : Prg} {S : Mc} {f : Fm} {below : List Fm} (h : S.fin = none) (hf : S.frs = f :: below) (he : (S.step p).fin ≠ none) : (S.step p).ms = S.ms ∨ (S.step p).ms = [] := by
 have hm : S.ms = f.m :: below.map Fm.m := by
  unfold Mc.ms
  rw [hf]
  rfl
 rw [Mc.step_on h hf] at he ⊢
 unfold Mc.stepF at he ⊢
 simp only at he ⊢
 split at he
 ·rename_i h1
  rw [if_pos h1]
  split at he
  ·exact absurd h he
  ·rename_i h2
   rw [if_neg h2]
   split at he
   ·rename_i h3
    rw [if_pos h3]
    left; rfl
   ·exact absurd h he
 ·rename_i h1
  rw [if_neg h1]
  split at he
  ·rename_i h2
   rw [if_pos h2]
   split at he
   ·rename_i h3
    rw [if_pos h3]
    left; rfl
   ·exact absurd h he
  ·rename_i h2
   rw [if_neg h2]
   split at he
   ·rename_i h3
    rw [if_pos h3]
    split
    ·right; rfl
    ·exact absurd h he
   ·rename_i h3
    rw [if_neg h3]
    split
    ·left; rfl
    ·rename_i hx
     rw [hx] at he
     exact absurd h he
def Mc.each (p : Prg) (ss : List Lk) (S : Mc) : List Int := S.ms.reverse.map (p.fw ss)
theorem each_len (p : Prg) (ss : List Lk) (S : Mc) : (S.each p ss).length = S.frs.length := by simp [Mc.each, Mc.ms]
theorem each_sum (p : Prg) (ss : List Lk) (S : Mc) : (S.each p ss).sum = S.wsum p ss := by
 unfold Mc.each Mc.wsum Mc.ms
 rw [List.map_reverse, List.sum_reverse, List.map_map]
 rfl
theorem each_get (p : Prg) (ss : List Lk) (S : Mc) {i : Nat} (h : i < S.frs.length) : (S.each p ss).getD i 0 = p.fw ss (S.frs.reverse.getD i default).m := by
 have e : S.each p ss = S.frs.reverse.map (fun f => p.fw ss f.m) := by
  unfold Mc.each Mc.ms
  rw [← List.map_reverse, List.map_map]
  rfl
 have h2 : i < S.frs.reverse.length := by simpa using h
 rw [e, List.getD_eq_getElem?_getD, List.getElem?_map, List.getD_eq_getElem?_getD, List.getElem?_eq_getElem h2]
 rfl
/-- The counts that stand there, against those that are wanted. -/
def EachR (ev g : List Int) : Prop := ev = g ∨ (∃ x, g = ev ++ [x]) ∨ ∃ y, ev = g ++ [y]
theorem step_each {p : Prg} {ss : List Lk} {S : Mc} {f : Fm} {below : List Fm} (h : S.fin = none) (hf : S.frs = f :: below) : EachR (S.each p ss) ((S.step p).each p ss) := by
 have hm : S.ms = f.m :: below.map Fm.m := by
  unfold Mc.ms
  rw [hf]
  rfl
 rcases step_ms (p := p) h hf with e | ⟨_, m, e⟩ | e
 ·left
  unfold Mc.each
  rw [e]
 ·right; left
  refine ⟨p.fw ss m, ?_⟩
  unfold Mc.each
  rw [e, List.reverse_cons, List.map_append]
  rfl
 ·right; right
  refine ⟨p.fw ss f.m, ?_⟩
  unfold Mc.each
  rw [e, hm, List.reverse_cons, List.map_append]
  rfl
theorem pkB_nn (p : Prg) (ss : List Lk) (S : Mc) : ∀ k, 0 ≤ Mc.pkB p ss k S
 | 0 => Int.le_refl _
 | k + 1 => by
  have := pkB_nn p ss S k
  show 0 ≤ max _ _
  omega
/-- At the end nothing more is counted. -/
theorem pkB_end {p : Prg} {ss : List Lk} {S : Mc} {j : Nat} {f : Fm} {below : List Fm} (h : (Mc.steps p j S).fin = none) (hf : (Mc.steps p j S).frs = f :: below) (he : ((Mc.steps p j S).step p).fin ≠ none) : Mc.pkF p ss (j + 1) S = Mc.pkB p ss (j + 1) S := by
 rw [pkF_pkB]
 have e : Mc.steps p (j + 1) S = (Mc.steps p j S).step p := by rw [steps_add]; rfl
 rw [e, ← each_sum]
 have h1 : ((Mc.steps p j S).wsum p ss) ≤ Mc.pkB p ss (j + 1) S := by
  show _ ≤ max _ _
  omega
 have h2 := pkB_nn p ss S (j + 1)
 rcases end_ms h hf he with e1 | e1
 ·have e2 : ((Mc.steps p j S).step p).each p ss = (Mc.steps p j S).each p ss := by unfold Mc.each; rw [e1]
  rw [e2, each_sum]
  omega
 ·have e2 : ((Mc.steps p j S).step p).each p ss = [] := by unfold Mc.each; rw [e1]; rfl
  rw [e2]
  simp
  omega
theorem fw_bd {p : Prg} {ss : List Lk} (v : Vf p ss) {f : Fm} {n : Nat} {t : List UInt8} (h : f.Ok p ss n t) : 0 ≤ p.fw ss f.m ∧ p.fw ss f.m ≤ 40 ∧ (ss.getD f.m default).most ≤ 12 := by
 have h1 := v.loc h
 have h2 := (look_good (by omega) (v.look.look f.m h.m)).2.1.most
 unfold Prg.fw
 omega
theorem each_bd {p : Prg} {ss : List Lk} (v : Vf p ss) {S : Mc} (h : S.Ok p ss) : 0 ≤ (S.each p ss).sum ∧ (S.each p ss).sum ≤ 40 * S.frs.length := by
 have key : ∀ l : List Fm, (∀ f ∈ l, f ∈ S.frs) → 0 ≤ (l.map fun f => p.fw ss f.m).sum ∧ (l.map fun f => p.fw ss f.m).sum ≤ 40 * l.length := by
  intro l
  induction l with
  | nil => intro _; simp
  | cons f l ih =>
   intro hl
   have h1 := ih (fun g hg => hl g (by simp [hg]))
   obtain ⟨t, hf⟩ := h.frok f (hl f (by simp))
   have h2 := fw_bd v hf
   simp only [List.map_cons, List.sum_cons, List.length_cons]
   omega
 rw [each_sum]
 exact key S.frs (fun f hf => hf)

/-- In the midst of Peak, in memory. -/
structure PkS (B : Nat) (w0 wr : World) (ib mb : Nat) (p : Prg) (ss : List Lk) (n0 n : Int) (S : Mc) (v : Value) (ev : List Int) : Prop where
 mat : ∃ U R X, MAt B wr U R mb ib p S X ∧ ib ∈ U ∧ ib ∉ R ∧ (∀ b ∈ R, w0.heap.size ≤ b) ∧ (∀ q, v.ownBlock = some q → q ∈ U ∧ q ∉ R)
 inf : InfoK w0 wr ib p ss n0 n
 own : OwnI wr w0.heap.size 3 v ev
section
variable {B : Nat} {w0 wr w' : World} {ib mb : Nat} {p : Prg} {ss : List Lk} {n0 n : Int} {S : Mc} {v v' : Value} {ev : List Int}
theorem PkS.keepT (h : PkS B w0 wr ib mb p ss n0 n S v ev) {T : List Nat} (hu : Upd T wr w') (hT : ∀ b ∈ T, b = ib ∨ v.ownBlock = some b) {n' : Int} (hi : InfoK w0 w' ib p ss n0 n') {ev' : List Int} (hv : ∀ q, v'.ownBlock = some q → v.ownBlock = some q ∨ wr.heap.size ≤ q ∧ q < w'.heap.size) (ho : OwnI w' w0.heap.size 3 v' ev') : PkS B w0 w' ib mb p ss n0 n' S v' ev' := by
 obtain ⟨U, R, X, h1, h2, h3, h4, h5⟩ := h.mat
 refine ⟨⟨U ++ news wr w', R, X, h1.keep hu (fun b hb => ?_) (fun b hb => ?_) (fun b hb => List.mem_append_left _ hb), List.mem_append_left _ h2, h3, h4, fun q hq => ?_⟩, hi, ho⟩
 ·rcases hT b hb with rfl | hb
  ·exact ⟨h2, h3⟩
  ·exact h5 b hb
 ·rcases List.mem_append.1 hb with hb | hb
  ·exact .inl hb
  ·exact .inr (mem_news.1 hb).1
 ·rcases hv q hq with hq | hq
  ·exact ⟨List.mem_append_left _ (h5 q hq).1, (h5 q hq).2⟩
  ·exact ⟨List.mem_append_right _ (mem_news.2 hq), fun hm => by have := (h1.low q hm).2; omega⟩
theorem PkS.ask (h : PkS B w0 wr ib mb p ss n0 n S v ev) (hu : Upd [ib] wr w') (hst : InfoStep wr w' ib n) : PkS B w0 w' ib mb p ss n0 (n + 1) S v ev := by
 obtain ⟨_, _, _, hbx, _⟩ := h.inf.now
 exact h.keepT hu (fun b hb => .inl (List.mem_singleton.1 hb)) (h.inf.step hu hst) (fun q hq => .inl hq) (row_upd h.own hu (fun q hq hm => by
  rw [List.mem_singleton] at hm
  subst hm
  exact own_heap_ne h.own hbx (by decide) hq))
theorem PkS.keep (h : PkS B w0 wr ib mb p ss n0 n S v ev) (hu : Upd [] wr w') : PkS B w0 w' ib mb p ss n0 n S v ev :=
 h.keepT hu (by simp) (h.inf.keep hu (by simp)) (fun q hq => .inl hq) (row_upd h.own hu (by simp))
theorem PkS.push (h : PkS B w0 wr ib mb p ss n0 n S v ev) {x : Int} {o : Obj} (hown : w'.ownsRow w0.heap.size 3 1 v' (ev.length + 1) (ev.map (Value.int .i64) ++ [.int .i64 x])) (hgr : (wr.alloc o).grownBy w' v.ownBlock) (hat : v'.ownBlock = v.ownBlock ∨ v'.ownBlock = some (wr.alloc o).heap.size) :
  PkS B w0 w' ib mb p ss n0 n S v' (ev ++ [x]) := by
 have hu : Upd v.ownBlock.toList wr w' := ((Upd.refl _ wr).alloc o).grown hgr (fun q hq => Or.inl (Option.mem_toList.2 hq))
 refine h.keepT hu (fun b hb => .inr (Option.mem_toList.1 hb)) (h.inf.keep hu (fun q hq => (World.ownsRow.lt h.own q (Option.mem_toList.1 hq)).1)) (fun q hq => ?_) ?_
 ·rcases hat with e | e
  ·exact .inl (by rw [← e]; exact hq)
  ·right
   refine ⟨?_, (World.ownsRow.lt hown q hq).2⟩
   rw [e] at hq
   injection hq with hq
   have : (wr.alloc o).heap.size = wr.heap.size + 1 := by simp
   omega
 ·unfold OwnI
  rw [List.length_append, List.map_append]
  exact hown
theorem PkS.pop {g L c : Nat} {x : Int} (h : PkS B w0 wr ib mb p ss n0 n S (.slice (some ⟨g, 0, none⟩) L c) (ev ++ [x])) : PkS B w0 wr ib mb p ss n0 n S (.slice (some ⟨g, 0, none⟩) ev.length c) ev := by
 have hl : L = (ev ++ [x]).length := by
  rcases h.own.form with ⟨h3, _⟩ | ⟨_, _, h3, _⟩
  ·cases h3
  ·injection h3
 have ho := h.own
 rw [hl] at ho
 refine ⟨?_, h.inf, ho.take (n := ev.length) (by rw [List.length_append]; omega) (by rw [List.take_left])⟩
 obtain ⟨U, R, X, h1, h2, h3, h4, h5⟩ := h.mat
 exact ⟨U, R, X, h1, h2, h3, h4, h5⟩
end
end Go.Proofs.YtojobkhidlfeoaaGreatDoor
