/- HeapPlays, plain: what a heap, its objects' places and what was touched keep. HeapPlays: the law's memory: the heap, its four rows, what is used. -/
import Derived.Test.YtbcoejmiihgfoaaDoorAny
import Derived.Test.YtbcoejmiihgfoaaDoorEach
import Derived.Test.YtbcoejmiihgfoaaDoorWide
import Derived.Test.YtbcoejmiihgfoaaDoorMir
import Derived.Test.YtbcoejmiihgfoaaDoorBools
/-! HeapPlays, plain: what a heap, its objects' places and what was touched keep. -/
/-! HeapPlays, plain: what a heap, its objects' places and what was touched keep. -/
namespace Go.Proofs.YtbcoejmiihgfoaaDoor
open Go.RowKit

/-- An object as the law has it. -/
def Hp.valL (S : Hp) (r : Int) : List Int := (List.range (S.num r).toNat).map fun j => S.get r (j : Nat)
def Hp.objL (S : Hp) (r : Int) : Int × List Int := (S.cls r, S.valL r)
theorem valL_len (S : Hp) (r : Int) : (S.valL r).length = (S.num r).toNat := by simp [Hp.valL]
theorem valL_get (S : Hp) (r : Int) (j : Nat) (h : j < (S.num r).toNat) : (S.valL r).getD j 0 = S.get r j := by
 simp [Hp.valL, h]

/-- What holds of a heap, its objects' places, and those that were touched. -/
structure HpK (S : Hp) (rs ts : List Int) : Prop where
 ok : S.Ok
 bl : S.bg.length = (S.A.length + 63) / 64
 ml : S.mr.length = (S.A.length + 63) / 64
 wide : S.Wide
 now : S.now = 0
 is : ∀ r, S.is r = true ↔ r ∈ rs
 nd : rs.Nodup
 mks : ∀ a, bhas S.mr a = true → (a : Int) + 1 ∈ ts
 rf : ∀ r, S.is r = true → ∀ j, 0 ≤ j → j < S.num r → S.refB r j = true → S.get r j = 0 ∨ S.is (S.get r j) = true
 tch : ∀ r, S.is r = true → S.inY r = false → ∀ j, 0 ≤ j → j < S.num r → S.refB r j = true → S.inY (S.get r j) = true → bhas S.mr (r - 1).toNat = true

theorem is_zero (S : Hp) : S.is 0 = false := by simp [Hp.is]
theorem is_neg (S : Hp) {r : Int} (h : r ≤ 0) : S.is r = false := by
 have : decide (1 ≤ r) = false := decide_eq_false (by omega)
 simp [Hp.is, this]
theorem inY_is {S : Hp} {r : Int} (h : S.inY r = true) : S.is r = true := by
 simp only [Hp.inY, Bool.and_eq_true] at h; exact h.1

theorem HpK.start (cs : List ByteArray) (lim nur : Int) (h0 : 0 ≤ nur) (h1 : nur ≤ lim) (h2 : lim ≤ 65536) (hc : cs.length ≤ 12) (hs : ∀ c ∈ cs, c.size ≤ 10) : HpK (Hp.new cs lim nur) [] [] := by
 have hz : ∀ r, (Hp.new cs lim nur).is r = false := fun r => by
  show (decide (1 ≤ r) && bhas (List.replicate _ 0) _) = false
  rw [bhas_zero, Bool.and_false]
 refine ⟨Hp.new_ok cs lim nur h0 h1 h2 hc hs, by simp [Hp.new], by simp [Hp.new], wide_new _ _ _, rfl, fun r => by rw [hz]; simp, by simp, fun a ha => ?_, fun r hr => ?_, fun r hr => ?_⟩
 ·have := bhas_zero ((lim.toNat + 63) / 64) a
  exact absurd (this.symm.trans ha) (by simp)
 ·rw [hz] at hr; cases hr
 ·rw [hz] at hr; cases hr

section
variable {S : Hp} {rs ts : List Int}
theorem HpK.isk (h : HpK S rs ts) {k : Nat} (hk : k < rs.length) : S.is (rs.getD k 0) = true := by
 rw [h.is, List.getD_eq_getElem?_getD, List.getElem?_eq_getElem hk]; exact List.getElem_mem hk
theorem HpK.bd (h : HpK S rs ts) {r : Int} (hr : r ∈ rs) : 1 ≤ r ∧ r ≤ 65536 := by
 have h1 := h.ok.le ((h.is r).2 hr)
 have h2 := h.ok.len
 omega
theorem HpK.inj (h : HpK S rs ts) {i j : Nat} (hi : i < rs.length) (hj : j < rs.length) (e : rs.getD i 0 = rs.getD j 0) : i = j := by
 rw [List.getD_eq_getElem?_getD, List.getElem?_eq_getElem hi, List.getD_eq_getElem?_getD, List.getElem?_eq_getElem hj] at e
 exact (List.getElem_inj h.nd).1 e

/-- A new object. -/
theorem HpK.laid (h : HpK S rs ts) {k : Nat} {c wd : Int} (f : Fits S k c wd) :
  HpK (S.laid k c wd) (rs ++ [(S.sp k).top + 1]) ts ∧ (S.sp k).top + 1 ∉ rs ∧ 0 ≤ (S.sp k).top ∧ (rs.map (S.laid k c wd).objL = rs.map S.objL) ∧ (rs.map (S.laid k c wd).inY = rs.map S.inY) ∧ (S.laid k c wd).objL ((S.sp k).top + 1) = (c, List.replicate (wd - 2).toNat 0) ∧ (S.laid k c wd).inY ((S.sp k).top + 1) = decide (k = 0) := by
 have hS := h.ok
 have hb := h.bl
 have hnot : (S.sp k).top + 1 ∉ rs := fun hm => by
  have h1 := (h.is _).2 hm
  rw [laid_new_not hS f] at h1; cases h1
 obtain ⟨hc1, hc2⟩ := laid_cls_new hS f
 have hobj : ∀ r, S.is r = true → (S.laid k c wd).objL r = S.objL r := fun r hr => by
  obtain ⟨e1, e2⟩ := laid_cls_old hS f hr
  unfold Hp.objL Hp.valL
  rw [e1, e2]
  congr 1
  refine List.map_congr_left (fun j hj => ?_)
  rw [List.mem_range] at hj
  exact laid_get_old hS f hr (by omega) (by omega)
 refine ⟨⟨laid_ok hS f hb, by rw [laid_len, laid_bg]; simpa [badd] using hb, by rw [laid_len, laid_mr]; exact h.ml, wide_laid hS h.wide f, by rw [laid_now]; exact h.now, fun r => ?_, ?_, by rw [laid_mr]; exact h.mks, fun r hr j hj hj2 hrf => ?_, fun r hr hy j hj hj2 hrf hyy => ?_⟩, hnot, top0 hS k, ?_, ?_, ?_, laid_inY_new hS f hb⟩
 ·rw [laid_is hS f hb, List.mem_append, List.mem_singleton, Bool.or_eq_true, h.is, decide_eq_true_eq]
 ·rw [List.nodup_append]
  refine ⟨h.nd, by simp, fun a ha b hb e => ?_⟩
  rw [List.mem_singleton] at hb
  exact hnot (by rw [← hb, ← e]; exact ha)
 ·rw [laid_is hS f hb, Bool.or_eq_true, decide_eq_true_eq] at hr
  rcases hr with hr | rfl
  ·rw [(laid_cls_old hS f hr).2] at hj2
   rw [laid_refB_old hS f hb hr] at hrf
   rw [laid_get_old hS f hr hj hj2]
   rcases h.rf r hr j hj hj2 hrf with h1 | h1
   ·exact .inl h1
   ·exact .inr (laid_is_old hS f hb h1)
  ·rw [hc2] at hj2
   exact .inl (laid_get_new hS f hj hj2)
 ·rw [laid_mr]
  rw [laid_is hS f hb, Bool.or_eq_true, decide_eq_true_eq] at hr
  rcases hr with hr | rfl
  ·rw [(laid_cls_old hS f hr).2] at hj2
   rw [laid_refB_old hS f hb hr] at hrf
   rw [laid_inY_old hS f hb hr] at hy
   rw [laid_get_old hS f hr hj hj2] at hyy
   rcases h.rf r hr j hj hj2 hrf with h1 | h1
   ·rw [h1] at hyy
    have := inY_is hyy
    rw [is_zero] at this; cases this
   ·rw [laid_inY_old hS f hb h1] at hyy
    exact h.tch r hr hy j hj hj2 hrf hyy
  ·rw [hc2] at hj2
   rw [laid_get_new hS f hj hj2] at hyy
   have := inY_is hyy
   rw [is_zero] at this; cases this
 ·exact List.map_congr_left (fun r hr => hobj r ((h.is r).2 hr))
 ·exact List.map_congr_left (fun r hr => laid_inY_old hS f hb ((h.is r).2 hr))
 ·unfold Hp.objL Hp.valL
  rw [hc1, hc2]
  congr 1
  refine List.ext_getElem (by simp) (fun j h1 h2 => ?_)
  simp only [List.getElem_map, List.getElem_range, List.getElem_replicate]
  simp only [List.length_map, List.length_range] at h1
  exact laid_get_new hS f (by omega) (by omega)

/-- A value put. -/
theorem HpK.put (h : HpK S rs ts) {k : Nat} (hk : k < rs.length) {j : Nat} {v : Int} (hm : S.mayRaw (rs.getD k 0) j v = true) (hv : -9223372036854775808 ≤ v ∧ v ≤ 9223372036854775807) :
  HpK (S.put (rs.getD k 0) j v) rs (if S.marked (rs.getD k 0) j v = true then ts ++ [rs.getD k 0] else ts) ∧ rs.map (S.put (rs.getD k 0) j v).objL = (rs.map S.objL).set k (S.cls (rs.getD k 0), (S.valL (rs.getD k 0)).set j v) ∧ rs.map (S.put (rs.getD k 0) j v).inY = rs.map S.inY := by
 have hS := h.ok
 obtain ⟨hr, h0, h1⟩ := mayRaw_at hm
 have hbd := hS.le hr
 have hlen := hS.len
 have hget := fun q jj => put_get hS hm q jj
 have hcl := fun q => put_cls hS hm q
 have hrb := fun q jj => put_refB hS hm q jj
 have hml := h.ml
 generalize hrr : rs.getD k 0 = r at *
 have hmr : ∀ a, bhas (S.put r j v).mr a = (bhas S.mr a || (S.marked r j v && decide ((r - 1).toNat = a))) := fun a => by
  unfold Hp.put
  cases hmk : S.marked r j v with
  | true =>
   rw [if_pos rfl]
   show bhas (badd S.mr _) a = _
   rw [badd_get _ _ _ (by omega), Bool.true_and]
  | false =>
   rw [if_neg (by simp), Bool.false_and, Bool.or_false]; rfl
 have hok : (S.put r j v).Ok := by
  unfold Hp.put
  split
  ·exact (raw_ok hS hr h0 h1).mark _
  ·exact raw_ok hS hr h0 h1
 refine ⟨⟨hok, by rw [put_lenA, put_bg]; exact h.bl, ?_, wide_put h.wide hS hm hv, by rw [put_now]; exact h.now, fun q => by rw [put_is]; exact h.is q, h.nd, fun a ha => ?_, fun q hq i hi hi2 hrf => ?_, fun q hq hy i hi hi2 hrf hyy => ?_⟩, ?_, ?_⟩
 ·rw [put_lenA, ← hml]
  unfold Hp.put
  split
  ·simp [badd]
  ·rfl
 ·rw [hmr, Bool.or_eq_true, Bool.and_eq_true, decide_eq_true_eq] at ha
  rcases ha with ha | ⟨ha, rfl⟩
  ·have := h.mks a ha
   split
   ·exact List.mem_append_left _ this
   ·exact this
  ·rw [if_pos ha]
   have e : (((r - 1).toNat : Nat) : Int) + 1 = r := by omega
   rw [e]
   simp
 ·rw [put_is] at hq
  rw [(hcl q hq).2] at hi2
  rw [hrb] at hrf
  rw [put_is, hget q i hq hi hi2]
  split
  ·rename_i e
   obtain ⟨rfl, rfl⟩ := e
   simp only [Hp.mayRaw, hrf, Bool.not_true, Bool.false_or, Bool.and_eq_true, Bool.or_eq_true, decide_eq_true_eq] at hm
   rcases hm.2 with h2 | h2
   ·exact .inl h2
   ·exact .inr h2.2
  ·exact h.rf q hq i hi hi2 hrf
 ·rw [put_is] at hq
  rw [(hcl q hq).2] at hi2
  rw [hrb] at hrf
  rw [put_inY] at hy
  rw [put_inY, hget q i hq hi hi2] at hyy
  rw [hmr, Bool.or_eq_true, Bool.and_eq_true, decide_eq_true_eq]
  split at hyy
  ·rename_i e
   obtain ⟨rfl, rfl⟩ := e
   exact .inr ⟨by unfold Hp.marked; rw [hrf, hy, hyy]; rfl, rfl⟩
  ·exact .inl (h.tch q hq hy i hi hi2 hrf hyy)
 ·have hob : ∀ q, q ∈ rs → q ≠ r → (S.put r j v).objL q = S.objL q := fun q hq hne => by
   have hqi := (h.is q).2 hq
   unfold Hp.objL Hp.valL
   rw [(hcl q hqi).1, (hcl q hqi).2]
   congr 1
   refine List.map_congr_left (fun i hi => ?_)
   rw [List.mem_range] at hi
   rw [hget q i hqi (by omega) (by omega), if_neg (fun e => hne e.1)]
  have hob2 : (S.put r j v).objL r = (S.cls r, (S.valL r).set j v) := by
   unfold Hp.objL
   rw [(hcl r hr).1]
   congr 1
   refine List.ext_getElem (by simp [Hp.valL, (hcl r hr).2]) (fun i h2 h3 => ?_)
   simp only [Hp.valL, List.length_map, List.length_range, (hcl r hr).2] at h2
   simp only [Hp.valL, List.getElem_map, List.getElem_range, List.getElem_set]
   rw [hget r i hr (by omega) (by omega)]
   by_cases e : j = i
   ·subst e; rw [if_pos ⟨rfl, rfl⟩, if_pos rfl]
   ·rw [if_neg (fun e2 => e (by omega)), if_neg e]
  refine List.ext_getElem (by simp) (fun i h2 h3 => ?_)
  simp only [List.length_map] at h2
  simp only [List.getElem_map, List.getElem_set]
  have hgk : rs[k]'hk = r := by
   rw [List.getD_eq_getElem?_getD, List.getElem?_eq_getElem hk] at hrr; exact hrr
  by_cases e : k = i
  ·subst e; rw [if_pos rfl, hgk]; exact hob2
  ·rw [if_neg e]
   refine hob _ (List.getElem_mem h2) (fun e2 => e ?_)
   exact (List.getElem_inj h.nd).1 (hgk.trans e2.symm)
 ·exact List.map_congr_left (fun q _ => put_inY S r j v q)

/-- What is refused. -/
theorem mayRaw_neg (S : Hp) (r j v : Int) (hv : v < 0) (hr : S.refB r j = true) : S.mayRaw r j v = false := by
 simp only [Hp.mayRaw, hr, Bool.not_true, Bool.false_or]
 have h1 : decide (v = 0) = false := decide_eq_false (by omega)
 have h2 : decide (1 ≤ v ∧ v ≤ 65536) = false := decide_eq_false (by omega)
 rw [h1, h2]; simp
theorem mayRaw_val (S : Hp) (r j v : Int) (hr : S.refB r j = false) : S.mayRaw r j v = (S.is r && decide (0 ≤ j ∧ j < S.num r)) := by
 simp [Hp.mayRaw, hr]
theorem mayRaw_ref (S : Hp) (r j v : Int) (hv : v = 0 ∨ 1 ≤ v ∧ v ≤ 65536 ∧ S.is v = true) : S.mayRaw r j v = (S.is r && decide (0 ≤ j ∧ j < S.num r)) := by
 unfold Hp.mayRaw
 rcases hv with rfl | ⟨h1, h2, h3⟩
 ·simp
 ·have h4 : decide (1 ≤ v ∧ v ≤ 65536) = true := decide_eq_true ⟨h1, h2⟩
  rw [h3, h4]; simp
theorem mayRaw_out (S : Hp) (r j v : Int) (h : ¬ (0 ≤ j ∧ j < S.num r)) : S.mayRaw r j v = false := by
 have : decide (0 ≤ j ∧ j < S.num r) = false := decide_eq_false h
 simp [Hp.mayRaw, this]
theorem refB_let {S : Hp} {r : Int} (h : S.is r = true) (j : Int) : S.refB r j = (decide (0 ≤ j ∧ j < S.num r) && letR S.cs (S.cls r) j) := by
 unfold Hp.refB letR
 rw [h, Bool.true_and]
end
end Go.Proofs.YtbcoejmiihgfoaaDoor

/-! HeapPlays: the law's memory: the heap, its four rows, what is used. -/
/-! HeapPlays: the law's memory: the heap, its four rows, what is used. -/
namespace Go.Proofs.YtbcoejmiihgfoaaDoor
open Go.RowKit

/-- A row of booleans of one's own. -/
def OwnB (w : World) (base : Nat) (v : Value) (ys : List Bool) : Prop := w.ownsRow base 4 1 v ys.length (ys.map Value.bool)
theorem OwnB.nth {w : World} {base : Nat} {v : Value} {ys : List Bool} (h : OwnB w base v ys) (k : Nat) (hk : k < ys.length) : ∃ g c, v = .slice (some ⟨g, 0, none⟩) ys.length c ∧ w.cell? ⟨g, k, none⟩ = some (.bool (ys.getD k false)) := by
 rcases h.2 with ⟨_, hn⟩ | ⟨g, cap, cur, hv, _⟩
 ·omega
 ·have h3 := h.cells (g := g) (by rw [hv]; rfl) k (.bool (ys.getD k false)) (by simp [hk])
  rw [Addr.add_lit, Nat.zero_add] at h3
  exact ⟨g, cap, hv, h3⟩
theorem OwnI.nth1 {w : World} {base : Nat} {e : TypeId} {v : Value} {xs : List Int} (h : OwnI w base e v xs) (k : Nat) (hk : k < xs.length) : ∃ g c, v = .slice (some ⟨g, 0, none⟩) xs.length c ∧ w.cell? ⟨g, k, none⟩ = some (.int .i64 (xs.getD k 0)) := by
 rcases h.form with ⟨_, h2⟩ | ⟨g, c, h1, _, h3, h4, h5⟩
 ·rw [h2] at hk; simp at hk
 ·exact ⟨g, c, h1, h5 k hk⟩
theorem own_shape {w : World} {base : Nat} {e : TypeId} {s n : Nat} {v : Value} {xs : List Value} (h : w.ownsRow base e s v n xs) : ∃ p c, v = .slice p n c := by
 rcases h.2 with ⟨h1, h2⟩ | ⟨g, cap, cur, hv, _⟩
 ·exact ⟨none, 0, by rw [h1, h2]⟩
 ·exact ⟨_, cap, hv⟩

/-- The law's memory. -/
structure HpW (w0 w : World) (B ub : Nat) (L : HL) (hv hmv : Value) (S : Hp) (ov rv yv tv : Value) (ps : List OP) (rs : List Int) (ys : List Bool) (ts : List Int) (u0 u1 : Int) : Prop where
 hp : HpAt w L hv hmv S
 mir : Mir w B ov ps
 refs : OwnI w B 3 rv rs
 yng : OwnB w B yv ys
 tch : OwnI w B 3 tv ts
 ap : ∀ k, rv.ownBlock = some k → tv.ownBlock ≠ some k
 us : w.heap[ub]? = some (.cells #[.int .i64 u0, .int .i64 u1] 43)
 lc : ∀ i ∈ L.all, i < ub
 lab : ∀ i ∈ [L.hb, L.ab, L.wb, L.bb, L.bw, L.mb, L.mw], w0.heap.size ≤ i
 ub0 : w0.heap.size ≤ ub ∧ ub < B
 bw : B ≤ w.heap.size
 upd : Upd [] w0 w

section
variable {w0 w : World} {B ub : Nat} {L : HL} {hv hmv : Value} {S : Hp} {ov rv yv tv : Value} {ps : List OP} {rs : List Int} {ys : List Bool} {ts : List Int} {u0 u1 : Int}
theorem HpW.same {w' : World} (h : HpW w0 w B ub L hv hmv S ov rv yv tv ps rs ys ts u0 u1) (hu : Upd [] w w') : HpW w0 w' B ub L hv hmv S ov rv yv tv ps rs ys ts u0 u1 :=
 ⟨h.hp.upd0 hu, h.mir.upd hu (by simp), h.refs.upd hu (by simp), row_upd h.yng hu (by simp), h.tch.upd hu (by simp), h.ap, hu.heap h.us (by simp), h.lc, h.lab, h.ub0, Nat.le_trans h.bw hu.size, h.upd.trans hu⟩
theorem HpW.rb (h : HpW w0 w B ub L hv hmv S ov rv yv tv ps rs ys ts u0 u1) : (∀ k, ov.ownBlock = some k → B ≤ k ∧ k < w.heap.size) ∧ (∀ k, rv.ownBlock = some k → B ≤ k ∧ k < w.heap.size) ∧ (∀ k, yv.ownBlock = some k → B ≤ k ∧ k < w.heap.size) ∧ (∀ k, tv.ownBlock = some k → B ≤ k ∧ k < w.heap.size) :=
 ⟨fun k hk => h.mir.out.lt k hk, fun k hk => h.refs.lt k hk, fun k hk => h.yng.lt k hk, fun k hk => h.tch.lt k hk⟩
/-- The heap itself goes on. -/
theorem HpW.heap {w' : World} {S' : Hp} {T : List Nat} (h : HpW w0 w B ub L hv hmv S ov rv yv tv ps rs ys ts u0 u1) (hH : HpAt w' L hv hmv S') (hu : Upd T w w') (hT : ∀ i ∈ T, i ∈ [L.hb, L.ab, L.wb, L.bb, L.bw, L.mb, L.mw]) : HpW w0 w' B ub L hv hmv S' ov rv yv tv ps rs ys ts u0 u1 := by
 have hlow : ∀ i ∈ T, i < ub := fun i hi => h.lc i (by
  have := hT i hi
  simp only [HL.all, List.mem_cons, List.not_mem_nil, or_false] at this ⊢
  rcases this with e | e | e | e | e | e | e <;> simp [e])
 have hB := h.ub0.2
 obtain ⟨r1, r2, r3, r4⟩ := h.rb
 refine ⟨hH, h.mir.low hu (fun k hk => by have := hlow k hk; omega), h.refs.upd hu (fun k hk hm => ?_), row_upd h.yng hu (fun k hk hm => ?_), h.tch.upd hu (fun k hk hm => ?_), h.ap, hu.heap h.us (fun hm => ?_), h.lc, h.lab, h.ub0, Nat.le_trans h.bw hu.size, h.upd.trans' hu (fun i hi hlt => ?_)⟩
 ·have := hlow k hm; have := (r2 k hk).1; omega
 ·have := hlow k hm; have := (r3 k hk).1; omega
 ·have := hlow k hm; have := (r4 k hk).1; omega
 ·have := hlow _ hm; omega
 ·have := h.lab i (hT i hi); omega
/-- A block of the rows is written. -/
theorem HpW.rest {w' : World} {T : List Nat} (h : HpW w0 w B ub L hv hmv S ov rv yv tv ps rs ys ts u0 u1) (hu : Upd T w w') (hT : ∀ i ∈ T, ub ≤ i) : HpAt w' L hv hmv S ∧ Upd [] w0 w' := by
 refine ⟨h.hp.upd hu (fun i hi hm => ?_), h.upd.trans' hu (fun i hi hlt => ?_)⟩
 ·have := h.lc i hi; have := hT i hm; omega
 ·have := hT i hi; have := h.ub0.1; omega
theorem HpW.used (h : HpW w0 w B ub L hv hmv S ov rv yv tv ps rs ys ts u0 u1) (a b : Int) {w' : World} (hu : Upd [ub] w w') (hc : w'.heap[ub]? = some (.cells #[.int .i64 a, .int .i64 b] 43)) : HpW w0 w' B ub L hv hmv S ov rv yv tv ps rs ys ts a b := by
 obtain ⟨e1, e2⟩ := h.rest hu (by simp)
 have hB := h.ub0.2
 obtain ⟨r1, r2, r3, r4⟩ := h.rb
 refine ⟨e1, h.mir.low hu (fun k hk => by simp at hk; omega), h.refs.upd hu (fun k hk hm => ?_), row_upd h.yng hu (fun k hk hm => ?_), h.tch.upd hu (fun k hk hm => ?_), h.ap, hc, h.lc, h.lab, h.ub0, Nat.le_trans h.bw hu.size, e2⟩
 ·simp at hm; have := (r2 k hk).1; omega
 ·simp at hm; have := (r3 k hk).1; omega
 ·simp at hm; have := (r4 k hk).1; omega
/-- A new object in the first row. -/
theorem HpW.pushO {w' : World} {ov' : Value} {q : OP} (h : HpW w0 w B ub L hv hmv S ov rv yv tv ps rs ys ts u0 u1) (hq : q.v = .slice (some ⟨q.b, 0, none⟩) q.xs.length q.xs.length) (hqb : w.heap[q.b]? = some (.cells (icells q.xs) 2)) (hqB : B ≤ q.b)
  (hqu : ov.ownBlock ≠ some q.b) (hqn : ∀ p ∈ ps, p.b ≠ q.b) (hrow : w'.ownsRow B 51 2 ov' (ps.length + 1) (oflat ps ++ [Value.int .i64 q.c, q.v])) (hg : w.grownBy w' ov.ownBlock) (hat : ov'.ownBlock = ov.ownBlock ∨ ov'.ownBlock = some w.heap.size) :
  HpW w0 w' B ub L hv hmv S ov' rv yv tv (ps ++ [q]) rs ys ts u0 u1 := by
 have hu : Upd ov.ownBlock.toList w w' := (Upd.refl _ w).grown hg (fun k hk => Or.inl (Option.mem_toList.2 hk))
 have hB := h.ub0.2
 have hlow : ∀ i ∈ ov.ownBlock.toList, B ≤ i := fun i hi => (h.rb.1 i (Option.mem_toList.1 hi)).1
 obtain ⟨e1, e2⟩ := h.rest hu (fun i hi => by have := hlow i hi; omega)
 refine ⟨e1, h.mir.push q hq hqb hqB hqu hqn hrow hg hat, h.refs.upd hu (fun k hk hm => ?_), row_upd h.yng hu (fun k hk hm => ?_), h.tch.upd hu (fun k hk hm => ?_), h.ap, hu.heap h.us (fun hm => ?_), h.lc, h.lab, h.ub0, Nat.le_trans h.bw hu.size, e2⟩
 ·exact own_ne h.refs h.mir.out (by decide) k hk (Option.mem_toList.1 hm)
 ·exact own_ne h.yng h.mir.out (by decide) k hk (Option.mem_toList.1 hm)
 ·exact own_ne h.tch h.mir.out (by decide) k hk (Option.mem_toList.1 hm)
 ·have := hlow _ hm; omega
theorem HpW.pushI {w' : World} {o : Obj} {v v' : Value} {xs : List Int} {x : Int} (h : HpW w0 w B ub L hv hmv S ov rv yv tv ps rs ys ts u0 u1) (hx : OwnI w B 3 v xs) (hrow : w'.ownsRow B 3 1 v' (xs.length + 1) (xs.map (Value.int .i64) ++ [.int .i64 x])) (hg : (w.alloc o).grownBy w' v.ownBlock) :
  Mir w' B ov ps ∧ OwnB w' B yv ys ∧ HpAt w' L hv hmv S ∧ Upd [] w0 w' ∧ w'.heap[ub]? = some (.cells #[.int .i64 u0, .int .i64 u1] 43) ∧ OwnI w' B 3 v' (xs ++ [x]) ∧ Upd v.ownBlock.toList w w' ∧ B ≤ w'.heap.size := by
 obtain ⟨o1, o2, o3⟩ := hx.push hrow hg
 have hB := h.ub0.2
 obtain ⟨e1, e2⟩ := h.rest o2 (fun i hi => by have := (o3 i hi).1; omega)
 refine ⟨h.mir.upd o2 (fun k hk => ⟨own_ne hx h.mir.out (by decide) k (Option.mem_toList.1 hk), fun p hp e => ?_⟩), row_upd h.yng o2 (fun k hk hm => own_ne h.yng hx (by decide) k hk (Option.mem_toList.1 hm)), e1, e2, o2.heap h.us (fun hm => by have := (o3 _ hm).1; omega), o1, o2, Nat.le_trans h.bw o2.size⟩
 exact own_heap_ne hx (h.mir.vals p hp).2.1 (by decide) (e ▸ Option.mem_toList.1 hk)
theorem HpW.pushR {w' : World} {o : Obj} {v' : Value} {x : Int} (h : HpW w0 w B ub L hv hmv S ov rv yv tv ps rs ys ts u0 u1) (hrow : w'.ownsRow B 3 1 v' (rs.length + 1) (rs.map (Value.int .i64) ++ [.int .i64 x])) (hg : (w.alloc o).grownBy w' rv.ownBlock) (hat : v'.ownBlock = rv.ownBlock ∨ v'.ownBlock = some (w.alloc o).heap.size) : HpW w0 w' B ub L hv hmv S ov v' yv tv ps (rs ++ [x]) ys ts u0 u1 := by
 obtain ⟨a1, a2, a3, a4, a5, a6, a7, a8⟩ := h.pushI h.refs hrow hg
 refine ⟨a3, a1, a6, a2, h.tch.upd a7 (fun k hk hm => h.ap k (Option.mem_toList.1 hm) hk), fun k hk e => ?_, a5, h.lc, h.lab, h.ub0, a8, a4⟩
 rcases hat with hat | hat
 ·exact h.ap k (hat ▸ hk) e
 ·rw [hat] at hk
  injection hk with hk
  have := (h.rb.2.2.2 k e).2
  simp at hk; omega
theorem HpW.pushT {w' : World} {o : Obj} {v' : Value} {x : Int} (h : HpW w0 w B ub L hv hmv S ov rv yv tv ps rs ys ts u0 u1) (hrow : w'.ownsRow B 3 1 v' (ts.length + 1) (ts.map (Value.int .i64) ++ [.int .i64 x])) (hg : (w.alloc o).grownBy w' tv.ownBlock) (hat : v'.ownBlock = tv.ownBlock ∨ v'.ownBlock = some (w.alloc o).heap.size) : HpW w0 w' B ub L hv hmv S ov rv yv v' ps rs ys (ts ++ [x]) u0 u1 := by
 obtain ⟨a1, a2, a3, a4, a5, a6, a7, a8⟩ := h.pushI h.tch hrow hg
 refine ⟨a3, a1, h.refs.upd a7 (fun k hk hm => h.ap k hk (Option.mem_toList.1 hm)), a2, a6, fun k hk e => ?_, a5, h.lc, h.lab, h.ub0, a8, a4⟩
 rcases hat with hat | hat
 ·exact h.ap k hk (hat ▸ e)
 ·rw [hat] at e
  injection e with e
  have := (h.rb.2.1 k hk).2
  simp at e; omega
theorem HpW.pushY {w' : World} {o : Obj} {v' : Value} {x : Bool} (h : HpW w0 w B ub L hv hmv S ov rv yv tv ps rs ys ts u0 u1) (hrow : w'.ownsRow B 4 1 v' (ys.length + 1) (ys.map Value.bool ++ [.bool x])) (hg : (w.alloc o).grownBy w' yv.ownBlock) : HpW w0 w' B ub L hv hmv S ov rv v' tv ps rs (ys ++ [x]) ts u0 u1 := by
 have hu : Upd yv.ownBlock.toList w w' := ((Upd.refl _ w).alloc o).grown hg (fun k hk => Or.inl (Option.mem_toList.2 hk))
 have hB := h.ub0.2
 have hlow : ∀ i ∈ yv.ownBlock.toList, B ≤ i := fun i hi => (h.rb.2.2.1 i (Option.mem_toList.1 hi)).1
 obtain ⟨e1, e2⟩ := h.rest hu (fun i hi => by have := hlow i hi; omega)
 refine ⟨e1, h.mir.upd hu (fun k hk => ⟨own_ne h.yng h.mir.out (by decide) k (Option.mem_toList.1 hk), fun p hp e => ?_⟩), h.refs.upd hu (fun k hk hm => ?_), ?_, h.tch.upd hu (fun k hk hm => ?_), h.ap, hu.heap h.us (fun hm => ?_), h.lc, h.lab, h.ub0, Nat.le_trans h.bw hu.size, e2⟩
 ·exact own_heap_ne h.yng (h.mir.vals p hp).2.1 (by decide) (e ▸ Option.mem_toList.1 hk)
 ·exact own_ne h.refs h.yng (by decide) k hk (Option.mem_toList.1 hm)
 ·unfold OwnB; simpa using hrow
 ·exact own_ne h.tch h.yng (by decide) k hk (Option.mem_toList.1 hm)
 ·have := hlow _ hm; omega
/-- A value of one of the objects is written. -/
theorem HpW.setV (h : HpW w0 w B ub L hv hmv S ov rv yv tv ps rs ys ts u0 u1) (k : Nat) (hk : k < ps.length) (j : Nat) (x : Int) : HpW w0 (w.setCell ⟨(ps[k]'hk).b, j, none⟩ (.int .i64 x)) B ub L hv hmv S ov rv yv tv (ps.set k ⟨(ps[k]'hk).c, (ps[k]'hk).xs.set j x, (ps[k]'hk).v, (ps[k]'hk).b⟩) rs ys ts u0 u1 := by
 obtain ⟨k1, k2, k3, k4⟩ := h.mir.vals _ (List.getElem_mem hk)
 have hu : Upd [(ps[k]'hk).b] w (w.setCell ⟨(ps[k]'hk).b, j, none⟩ (.int .i64 x)) := (Upd.refl _ w).setCell (.inl (by simp)) _
 have hB := h.ub0.2
 obtain ⟨e1, e2⟩ := h.rest hu (fun i hi => by simp at hi; omega)
 refine ⟨e1, h.mir.setv k hk j x, h.refs.upd hu (fun q hq hm => ?_), row_upd h.yng hu (fun q hq hm => ?_), h.tch.upd hu (fun q hq hm => ?_), h.ap, hu.heap h.us (fun hm => ?_), h.lc, h.lab, h.ub0, Nat.le_trans h.bw hu.size, e2⟩
 ·rw [List.mem_singleton] at hm; exact own_heap_ne h.refs k2 (by decide) (hm ▸ hq)
 ·rw [List.mem_singleton] at hm; exact own_heap_ne h.yng k2 (by decide) (hm ▸ hq)
 ·rw [List.mem_singleton] at hm; exact own_heap_ne h.tch k2 (by decide) (hm ▸ hq)
 ·rw [List.mem_singleton] at hm; omega
end

/-- What the law's variables say. -/
structure HpT (S : Hp) (ps : List OP) (rs : List Int) (ys : List Bool) (ts : List Int) (u0 u1 nur half : Int) (cs : List ByteArray) (i : Nat) : Prop where
 k : HpK S rs ts
 os : ps.map OP.o = rs.map S.objL
 ys : ys = rs.map S.inY
 u0 : S.y.top = u0 ∧ S.y.fr = 0 ∧ S.y.to = nur
 u1 : S.h0.top = S.h0.fr + u1 ∧ S.h0.to = S.h0.fr + half
 cs : S.cs = cs
 few : rs.length ≤ i ∧ ts.length ≤ i
theorem HpT.len {S : Hp} {ps : List OP} {rs : List Int} {ys : List Bool} {ts : List Int} {u0 u1 nur half : Int} {cs : List ByteArray} {i : Nat} (h : HpT S ps rs ys ts u0 u1 nur half cs i) : ps.length = rs.length ∧ ys.length = rs.length := by
 have h1 := congrArg List.length h.os
 have h2 := congrArg List.length h.ys
 simp only [List.length_map] at h1 h2
 exact ⟨h1, h2⟩
theorem HpT.mono {S : Hp} {ps : List OP} {rs : List Int} {ys : List Bool} {ts : List Int} {u0 u1 nur half : Int} {cs : List ByteArray} {i j : Nat} (h : HpT S ps rs ys ts u0 u1 nur half cs i) (hij : i ≤ j) : HpT S ps rs ys ts u0 u1 nur half cs j := ⟨h.k, h.os, h.ys, h.u0, h.u1, h.cs, by have := h.few; omega⟩
end Go.Proofs.YtbcoejmiihgfoaaDoor
