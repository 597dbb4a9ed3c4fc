/- What overdriveref7.Of answers, in memory. overdriveref7.Of. overdriveworld.Info. -/
import Derived.Test.YtojobkhidlfeoaaGreatDoorInfoA
import Derived.Test.YtojobkhidlfeoaaGreatDoorRLookW
import Derived.Test.YtojobkhidlfeoaaGreatDoorMay3
import Derived.Test.YtojobkhidlfeoaaGreatDoorOfV
import Derived.Test.YtojobkhidlfeoaaGreatDoorLightP
/-! What overdriveref7.Of answers, in memory. -/
/-! overdriveref7's looks of one's own. -/
namespace Go.Proofs.YtojobkhidlfeoaaGreatDoor
open Go.RowKit

/-- What overdriveref7 knows of the methods. -/
def LksT (w : World) (v : Value) (ms : List Meth) (ss : List Lk) : Prop :=
 ∃ a cap, v = .slice a ss.length cap ∧ cap ≤ maxLen ∧ ∀ i, i < ss.length → ∃ b o gs gb, a = some ⟨b, o, none⟩ ∧ w.cell? ⟨b, o + i * 3, none⟩ = some (.slice (some ⟨gb, 0, none⟩) (ms.getD i default).code.length (ms.getD i default).code.length) ∧
  w.cell? ⟨b, o + i * 3 + 1, none⟩ = some (.slice (some ⟨gs, 0, none⟩) (ms.getD i default).code.length (ms.getD i default).code.length) ∧ w.cell? ⟨b, o + i * 3 + 2, none⟩ = some (.int .i64 (ss.getD i default).most) ∧ LkC w gs gb (ms.getD i default).code.length (ss.getD i default)
theorem LksT.upd {w w' : World} {v : Value} {ms : List Meth} {ss : List Lk} (h : LksT w v ms ss) (hu : Upd [] w w') : LksT w' v ms ss := by
 obtain ⟨a, cap, h1, h2, h3⟩ := h
 refine ⟨a, cap, h1, h2, fun i hi => ?_⟩
 obtain ⟨b, o, gs, gb, h4, h5, h6, h7, h8⟩ := h3 i hi
 exact ⟨b, o, gs, gb, h4, hu.cell h5 (by simp), hu.cell h6 (by simp), hu.cell h7 (by simp), fun q hq => ⟨hu.cell (h8 q hq).1 (by simp), hu.cell (h8 q hq).2 (by simp)⟩⟩

/-- Looks of one's own. -/
structure OwnT (w : World) (B : Nat) (v : Value) (ms : List Meth) (ss : List Lk) (gg : List (Nat × Nat)) : Prop where
 row : w.ownsRow B 188 3 v ms.length (lcells ms ss gg)
 len : ss.length = ms.length
 len2 : gg.length = ms.length
 rows : ∀ i, i < ms.length → LkAt w (gg.getD i default).2 (gg.getD i default).1 (ss.getD i default)
theorem OwnT.nil (w : World) (B : Nat) : OwnT w B (.slice none 0 0) [] [] [] := ⟨⟨by simp [lcells], .inl ⟨rfl, rfl⟩⟩, rfl, rfl, by simp⟩
theorem OwnT.blk {w : World} {B : Nat} {v : Value} {ms : List Meth} {ss : List Lk} {gg : List (Nat × Nat)} (h : OwnT w B v ms ss gg) (k : Nat) (hk : v.ownBlock = some k) : B ≤ k ∧ k < w.heap.size ∧ ∃ cur : Array Value, w.heap[k]? = some (.cells cur 188) := by
 rcases h.row.2 with ⟨h1, h2⟩ | ⟨g, c, cur, h1, h3, h4, _⟩
 ·rw [h1] at hk; simp [Value.ownBlock] at hk
 ·rw [h1] at hk
  simp only [Value.ownBlock, Option.some.injEq] at hk
  subst hk
  exact ⟨h3, lt_of_heap h4, cur, h4⟩
theorem OwnT.shape {w : World} {B : Nat} {v : Value} {ms : List Meth} {ss : List Lk} {gg : List (Nat × Nat)} (h : OwnT w B v ms ss gg) : ∃ p c, v = .slice p ms.length c := by
 rcases h.row.2 with ⟨h1, h2⟩ | ⟨g, c, cur, h1, _⟩
 ·exact ⟨none, 0, by rw [h1, h2]⟩
 ·exact ⟨_, c, h1⟩
theorem OwnT.updT {w w' : World} {B : Nat} {v : Value} {ms : List Meth} {ss : List Lk} {gg : List (Nat × Nat)} {T : List Nat} (h : OwnT w B v ms ss gg) (hu : Upd T w w') (h1 : ∀ q, v.ownBlock = some q → q ∉ T) (h2 : ∀ i, i < ms.length → (gg.getD i default).1 ∉ T ∧ (gg.getD i default).2 ∉ T) : OwnT w' B v ms ss gg :=
 ⟨row_upd h.row hu h1, h.len, h.len2, fun i hi => (h.rows i hi).upd hu (h2 i hi).2 (h2 i hi).1⟩
theorem OwnT.upd {w w' : World} {B : Nat} {v : Value} {ms : List Meth} {ss : List Lk} {gg : List (Nat × Nat)} (h : OwnT w B v ms ss gg) (hu : Upd [] w w') : OwnT w' B v ms ss gg := h.updT hu (by simp) (by simp)
/-- Any row of looks, whatever they are. -/
theorem OwnT.push {w w' : World} {B : Nat} {v v' : Value} {ms : List Meth} {ss : List Lk} {gg : List (Nat × Nat)} {m : Meth} {s : Lk} {gs gb : Nat} {o : Obj} (h : OwnT w B v ms ss gg) (hs : LkAt w gs gb s)
  (hown : w'.ownsRow B 188 3 v' (ms.length + 1) (lcells ms ss gg ++ lcell m.code.length gb gs s)) (hgr : (w.alloc o).grownBy w' v.ownBlock) :
  OwnT w' B v' (ms ++ [m]) (ss ++ [s]) (gg ++ [(gb, gs)]) := by
 have hlen := h.len
 have hlen2 := h.len2
 have hu : Upd v.ownBlock.toList w w' := ((Upd.refl _ w).alloc o).grown hgr (fun q hq => Or.inl (Option.mem_toList.2 hq))
 have off : ∀ a b s', LkAt w a b s' → a ∉ v.ownBlock.toList ∧ b ∉ v.ownBlock.toList := fun a b s' h2 => by
  refine ⟨fun hm => ?_, fun hm => ?_⟩
  ·exact own_heap_ne h.row h2.stk (by decide) (Option.mem_toList.1 hm)
  ·exact own_heap_ne h.row h2.seen (by decide) (Option.mem_toList.1 hm)
 refine ⟨by rw [lcells_snoc _ _ _ _ _ _ hlen hlen2]; simpa using hown, by simp [hlen], by simp [hlen2], fun i hi => ?_⟩
 by_cases e : i < ms.length
 ·rw [getD_snoc_lt _ _ _ _ (by omega), getD_snoc_lt _ _ _ _ (by omega)]
  have h2 := h.rows i e
  exact h2.upd hu (off _ _ _ h2).1 (off _ _ _ h2).2
 ·have hi2 : i = ms.length := by simp at hi; omega
  subst hi2
  have e1 : (gg ++ [(gb, gs)]).getD ms.length default = (gb, gs) := by rw [← hlen2]; exact getD_snoc_eq _ _ _
  have e2 : (ss ++ [s]).getD ms.length default = s := by rw [← hlen]; exact getD_snoc_eq _ _ _
  rw [e1, e2]
  exact hs.upd hu (off _ _ _ hs).1 (off _ _ _ hs).2
theorem OwnT.looks {w : World} {B : Nat} {v : Value} {ms : List Meth} {ss : List Lk} {gg : List (Nat × Nat)} (h : OwnT w B v ms ss gg) (hn : ∀ i, i < ms.length → (ss.getD i default).stk.length = (ms.getD i default).code.length ∧ (ss.getD i default).seen.length = (ms.getD i default).code.length) : LksT w v ms ss := by
 rcases h.row.2 with ⟨h1, h2⟩ | ⟨g, c, cur, h1, h3, h4, h5, h6, h7, h8⟩
 ·have e : ss = [] := List.eq_nil_of_length_eq_zero (by rw [h.len]; exact h2)
  subst e
  exact ⟨none, 0, h1, by unfold maxLen; omega, by simp⟩
 ·rw [← h.len] at h1
  refine ⟨_, c, h1, h6, fun i hi => ?_⟩
  have hi2 : i < ms.length := by rw [← h.len]; exact hi
  obtain ⟨g0, g1, g2⟩ := lcells_get ms ss gg i h.len h.len2 hi2
  have cell : ∀ j u, (lcells ms ss gg)[j]? = some u → w.cell? ⟨g, 0 + j, none⟩ = some u := fun j u hj => by
   have := h.row.cells (g := g) (by rw [h1]; rfl) j u hj
   rwa [Addr.add_lit] at this
  exact ⟨g, 0, _, _, rfl, cell _ _ g0, cell _ _ g1, cell _ _ g2, (h.rows i hi2).cells (hn i hi2).1 (hn i hi2).2⟩

theorem Tryz.infoRMethod : (Tryz.prog.info? 188).map (fun i => (i.zero, i.size, i.bytes)) = some (some (.agg #[.slice none 0 0, .slice none 0 0, .int .i64 0]), 3, 56) := by kernel_rfl

/-- Of's fault, if it is one. -/
def OfBad (p : Prg) (c : Int) (at_ : List Int) : Prop := c ≠ 0 ∧ (MayIs p c at_ ∨
 (p.Ok ∧ ∃ k pc : Nat, k < p.ms.length ∧ (∀ j, j < k → ∃ s, lookM p (p.ms.getD j default) = .ok s) ∧ lookM p (p.ms.getD k default) = .error (c, pc) ∧ at_ = [(k : Int), (pc : Int)]))
/-- What Of answers: the looks, and the fault. -/
def ROfEnd (p : Prg) (w' : World) (rv : Value) (c : Int) (sl : Value) : Prop :=
 (p.Ok ∧ c = 0 ∧ sl = .slice none 0 0 ∧ ∃ ss, ss.length = p.ms.length ∧ (∀ j, j < p.ms.length → lookM p (p.ms.getD j default) = .ok (ss.getD j default)) ∧ LksT w' rv p.ms ss) ∨
 (∃ fb at_, OfBad p c at_ ∧ IntsV w' sl fb at_)

/-- In the midst of Of: the boxes. -/
structure ROfIn (w wr : World) (cv mv : Value) (fx ob : Nat) (c : Int) (sl rv : Value) : Prop where
 hp : wr.heap[w.heap.size]? = some (.cells #[cv, mv] 25)
 hr : wr.heap[w.heap.size + 1]? = some (.cells #[.slice none 0 0, .slice none 0 0, .slice none 0 0] 31)
 hf : wr.heap[w.heap.size + 2]? = some (.cells #[.int .i64 0, .slice none 0 0] 110)
 hx : wr.heap[fx]? = some (.cells #[.int .i64 c, sl] 110)
 ho : wr.heap[ob]? = some (.cells #[cv, mv, rv] 31)
 upd : Upd [] w wr
 ge : w.heap.size + 3 ≤ fx ∧ fx < ob
theorem ROfIn.same {w wr w' : World} {cv mv : Value} {fx ob : Nat} {c : Int} {sl rv : Value} (h : ROfIn w wr cv mv fx ob c sl rv) (hu : Upd [] wr w') : ROfIn w w' cv mv fx ob c sl rv :=
 ⟨hu.heap h.hp (by simp), hu.heap h.hr (by simp), hu.heap h.hf (by simp), hu.heap h.hx (by simp), hu.heap h.ho (by simp), h.upd.trans hu, h.ge⟩
end Go.Proofs.YtojobkhidlfeoaaGreatDoor

/-! overdriveref7.Of. -/
/-! overdriveref7.Of. -/
namespace Go.Proofs.YtojobkhidlfeoaaGreatDoor
open Go.RowKit

theorem ints_off {w : World} {sl : Value} {fb q : Nat} {a b : Int} {p : Option Addr} {n c : Nat} (h : IntsV w sl fb [a, b]) (hq : w.cell? ⟨q, 0, none⟩ = some (.slice p n c)) : fb ≠ q := by
 rintro rfl
 have := h.2 0 (by simp)
 rw [hq] at this
 cases this
theorem ints_off1 {w : World} {sl : Value} {fb q : Nat} {a b : Int} {p : Option Addr} {n c : Nat} (h : IntsV w sl fb [a, b]) (hq : w.cell? ⟨q, 1, none⟩ = some (.slice p n c)) : fb ≠ q := by
 rintro rfl
 have := h.2 1 (by simp)
 rw [hq] at this
 cases this

/-- The fault is stored. -/
theorem ROfIn.fault {w wr : World} {cv mv : Value} {fx ob : Nat} {c : Int} {sl rv : Value} (h : ROfIn w wr cv mv fx ob c sl rv) (c' : Int) (sl' : Value) :
  ROfIn w ((wr.setCell ⟨fx, 0, none⟩ (.int .i64 c')).setCell ⟨fx, 1, none⟩ sl') cv mv fx ob c' sl' rv ∧ Upd [fx] wr ((wr.setCell ⟨fx, 0, none⟩ (.int .i64 c')).setCell ⟨fx, 1, none⟩ sl') := by
 have hu : Upd [fx] wr ((wr.setCell ⟨fx, 0, none⟩ (.int .i64 c')).setCell ⟨fx, 1, none⟩ sl') := ((Upd.refl _ wr).setCell (.inl (by simp)) _).setCell (.inl (by simp)) _
 have hge := h.ge
 refine ⟨⟨hu.heap h.hp (by simp; omega), hu.heap h.hr (by simp; omega), hu.heap h.hf (by simp; omega), ?_, hu.heap h.ho (by simp; omega), h.upd.trans' hu (fun i hi hl => by simp at hi; omega), hge⟩, hu⟩
 have h2 := heap_setCell (heap_setCell h.hx 0 (.int .i64 c')) 1 sl'
 simpa using h2
/-- The looks are stored. -/
theorem ROfIn.looks {w wr w' : World} {cv mv : Value} {fx ob : Nat} {c : Int} {sl rv : Value} {T : List Nat} (h : ROfIn w wr cv mv fx ob c sl rv) (hu : Upd T wr w') (hT : ∀ k ∈ T, w.heap.size + 3 ≤ k) (hf : fx ∉ T) (ho : ob ∉ T) (rv' : Value) :
  ROfIn w (w'.setCell ⟨ob, 2, none⟩ rv') cv mv fx ob c sl rv' ∧ Upd (ob :: T) wr (w'.setCell ⟨ob, 2, none⟩ rv') := by
 have hge := h.ge
 have h0 : Upd [ob] w' (w'.setCell ⟨ob, 2, none⟩ rv') := (Upd.refl _ w').setCell (.inl (by simp)) _
 have h1 : Upd T w w' := (h.upd.mono (by simp)).trans hu
 have n : ∀ k, k < w.heap.size + 3 → k ∉ T := fun k hk hm => by have := hT k hm; omega
 refine ⟨⟨h0.heap (hu.heap h.hp (n _ (by omega))) (by simp; omega), h0.heap (hu.heap h.hr (n _ (by omega))) (by simp; omega), h0.heap (hu.heap h.hf (n _ (by omega))) (by simp; omega), h0.heap (hu.heap h.hx hf) (by simp; omega), ?_, ?_, hge⟩, (hu.mono (fun _ h _ => List.mem_cons_of_mem _ h)).trans (h0.mono (fun _ h _ => by rw [List.mem_singleton] at h; simp [h]))⟩
 ·have h2 := heap_setCell (hu.heap h.ho ho) 2 rv'
  simpa using h2
 ·exact (h.upd.trans' hu (fun k hk hl => by have := hT k hk; omega)).trans' h0 (fun k hk hl => by simp at hk; omega)

theorem OfBad.place {p : Prg} {c : Int} {at_ : List Int} (h : OfBad p c at_) : at_ = [] ∨ ∃ a b, at_ = [a, b] := by
 obtain ⟨_, h | ⟨_, k, pc, _, _, _, h⟩⟩ := h
 ·rcases h with ⟨_, _, h⟩ | ⟨_, h | ⟨_, h | ⟨_, _, h⟩⟩⟩
  ·exact .inl h
  ·obtain ⟨i, _, _, _, _, h⟩ := h; exact .inr ⟨_, _, h⟩
  ·obtain ⟨k, _, _, ⟨_, _, h⟩ | ⟨_, pc, _, _, _, _, h⟩⟩ := h
   ·exact .inr ⟨_, _, h⟩
   ·exact .inr ⟨_, _, h⟩
  ·exact .inl h
 ·exact .inr ⟨_, _, h⟩
/-- The world behind the return's stores. -/
def retW (w wr : World) (cv mv rv : Value) (c : Int) (sl : Value) : World :=
 ((((((wr.setCell ⟨w.heap.size + 1, 0, none⟩ cv).setCell ⟨w.heap.size + 1, 1, none⟩ mv).setCell ⟨w.heap.size + 1, 2, none⟩ rv).setCell ⟨w.heap.size + 1 + 1, 0, none⟩ (.int .i64 c)).setCell ⟨w.heap.size + 1 + 1, 1, none⟩ sl)).drew
theorem ROfIn.ret {w wr : World} {cv mv : Value} {fx ob : Nat} {c : Int} {sl rv : Value} (h : ROfIn w wr cv mv fx ob c sl rv) :
  (retW w wr cv mv rv c sl).heap[w.heap.size + 1]? = some (.cells #[cv, mv, rv] 31) ∧ (retW w wr cv mv rv c sl).heap[w.heap.size + 1 + 1]? = some (.cells #[.int .i64 c, sl] 110) ∧ Upd [w.heap.size + 1, w.heap.size + 1 + 1] wr (retW w wr cv mv rv c sl) ∧ Upd [] w (retW w wr cv mv rv c sl) := by
 have k1 := heap_setCell h.hr 0 cv
 have k2 := heap_setCell k1 1 mv
 have k3 := heap_setCell k2 2 rv
 have u3 : Upd [w.heap.size + 1] wr (((wr.setCell ⟨w.heap.size + 1, 0, none⟩ cv).setCell ⟨w.heap.size + 1, 1, none⟩ mv).setCell ⟨w.heap.size + 1, 2, none⟩ rv) :=
  (((Upd.refl _ wr).setCell (.inl (by simp)) _).setCell (.inl (by simp)) _).setCell (.inl (by simp)) _
 have l0 := u3.heap h.hf (by simp)
 have l1 := heap_setCell l0 0 (.int .i64 c)
 have l2 := heap_setCell l1 1 sl
 have u5 : Upd [w.heap.size + 1 + 1] (((wr.setCell ⟨w.heap.size + 1, 0, none⟩ cv).setCell ⟨w.heap.size + 1, 1, none⟩ mv).setCell ⟨w.heap.size + 1, 2, none⟩ rv) (retW w wr cv mv rv c sl) :=
  (((Upd.refl _ _).setCell (.inl (by simp)) _).setCell (.inl (by simp)) _).drew
 have k5 := u5.heap k3 (by simp)
 have e1 := u3.mono (T := [w.heap.size + 1, w.heap.size + 1 + 1]) (fun _ hm _ => by rw [List.mem_singleton] at hm; simp [hm])
 have e2 := u5.mono (T := [w.heap.size + 1, w.heap.size + 1 + 1]) (fun _ hm _ => by rw [List.mem_singleton] at hm; simp [hm])
 have e3 := h.upd.trans' u3 (fun i hi hl => by rw [List.mem_singleton] at hi; omega)
 have e4 := e3.trans' u5 (fun i hi hl => by rw [List.mem_singleton] at hi; omega)
 have e5 := e1.trans e2
 refine ⟨?_, ?_, e5, e4⟩
 ·rw [k5]; simp
 ·unfold retW
  rw [show ∀ W : World, W.drew.heap = W.heap from fun _ => rfl, l2]
  simp
theorem OwnT.offR {w w' : World} {B a b : Nat} {v : Value} {ms : List Meth} {ss : List Lk} {gg : List (Nat × Nat)} {x y : Array Value} (h : OwnT w B v ms ss gg) (ha : w.heap[a]? = some (.cells x 31)) (hb : w.heap[b]? = some (.cells y 110)) (hu : Upd [a, b] w w') : OwnT w' B v ms ss gg := by
 have off : ∀ (q : Nat) (z : Array Value) (t : TypeId), t ≠ 31 → t ≠ 110 → w.heap[q]? = some (.cells z t) → q ∉ [a, b] := fun q z t ht ht2 hq hm => by
  simp only [List.mem_cons, List.not_mem_nil, or_false] at hm
  rcases hm with rfl | rfl
  ·rw [ha] at hq
   injection hq with hq
   injection hq with _ hq _
   exact ht hq.symm
  ·rw [hb] at hq
   injection hq with hq
   injection hq with _ hq _
   exact ht2 hq.symm
 refine h.updT hu (fun q hq => ?_) (fun i hi => ?_)
 ·obtain ⟨_, _, cur, h3⟩ := h.blk q hq
  exact off q cur _ (by decide) (by decide) h3
 ·have h4 := h.rows i hi
  exact ⟨off _ _ _ (by decide) (by decide) h4.seen, off _ _ _ (by decide) (by decide) h4.stk⟩
theorem OwnT.store {w : World} {B ob : Nat} {v u : Value} {ms : List Meth} {ss : List Lk} {gg : List (Nat × Nat)} {a : Array Value} (h : OwnT w B v ms ss gg) (ho : w.heap[ob]? = some (.cells a 31)) : OwnT (w.setCell ⟨ob, 2, none⟩ u) B v ms ss gg := by
 have hu : Upd [ob] w (w.setCell ⟨ob, 2, none⟩ u) := (Upd.refl _ w).setCell (.inl (by simp)) _
 have off : ∀ (q : Nat) (b : Array Value) (t : TypeId), t ≠ 31 → w.heap[q]? = some (.cells b t) → q ∉ [ob] := fun q b t ht hq hm => by
  rw [List.mem_singleton] at hm
  rw [hm, ho] at hq
  injection hq with hq
  injection hq with _ hq _
  exact ht hq.symm
 refine h.updT hu (fun q hq => ?_) (fun i hi => ?_)
 ·obtain ⟨_, _, cur, h3⟩ := h.blk q hq
  exact off q cur _ (by decide) h3
 ·have h4 := h.rows i hi
  exact ⟨off _ _ _ (by decide) h4.seen, off _ _ _ (by decide) h4.stk⟩
/-- The own row's first cell is a slice. -/
theorem OwnT.first {w : World} {B : Nat} {v : Value} {ms : List Meth} {ss : List Lk} {gg : List (Nat × Nat)} (h : OwnT w B v ms ss gg) (hl : 0 < ms.length) (q : Nat) (hq : v.ownBlock = some q) : ∃ p n c, w.cell? ⟨q, 0, none⟩ = some (.slice p n c) := by
 obtain ⟨g0, _, _⟩ := lcells_get ms ss gg 0 h.len h.len2 hl
 have := h.row.cells hq 0 _ (by simpa using g0)
 rw [Addr.add_lit] at this
 exact ⟨_, _, _, this⟩

/-- The relation at the loop's head. -/
def ROfRel (p : Prg) (w wr : World) (cv mv : Value) (fx ob i : Nat) : Prop :=
 (p.Ok ∧ ∃ rv ss gg sp sn sc, (i = 0 ∨ Value.slice sp sn sc = .slice none 0 0) ∧ OwnT wr (w.heap.size + 3) rv (p.ms.take i) ss gg ∧ (i = 0 → rv = .slice none 0 0) ∧ (∀ j, j < i → lookM p (p.ms.getD j default) = .ok (ss.getD j default)) ∧ ROfIn w wr cv mv fx ob 0 (.slice sp sn sc) rv) ∨
 (∃ c sl rp rn rc fb at_, OfBad p c at_ ∧ IntsV wr sl fb at_ ∧ ROfIn w wr cv mv fx ob c sl (.slice rp rn rc))

set_option maxRecDepth 100000 in
set_option maxHeartbeats 4000000 in
theorem rof_any (p : Prg) (cv mv : Value) (w : World) (hc : ClassAt w cv p.cs) (hm : MethsAt w mv p.ms) :
  Calls Tryz.prog 73 #[.agg #[cv, mv]] w fun e w' => ∃ rp rn rc c lp ln lc, e = .returned (.tuple #[.agg #[cv, mv, .slice rp rn rc], .agg #[.int .i64 c, .slice lp ln lc]]) ∧ ROfEnd p w' (.slice rp rn rc) c (.slice lp ln lc) ∧ Upd [] w w' := by
 obtain ⟨ti, hti, htz0, htz1, htz2⟩ := info_parts Tryz.infoRMethod
 have HTI := Lib.hid hti
 have HTZ0 := Lib.hid htz0
 have HTZ1 := Lib.hid htz1
 have HTZ2 := Lib.hid htz2
 clear hti htz0 htz1 htz2
 have HC := Lib.hid hc
 have HM := Lib.hid hm
 obtain ⟨ca, cc, rfl, _⟩ := hc
 obtain ⟨ma, mc, rfl, hml, hmm, _⟩ := hm
 unfold maxLen at hmm
 have HMY := Lib.hid (fun w' (hu : Upd [] w w') => may_any p _ _ w' (HC.out.upd hu) (HM.out.upd hu))
 have HLOOK := Lib.hid (fun (hok : p.Ok) (k : Nat) (hk : k < p.ms.length) w' (hu : Upd [] w w') => rmethod_any p hok k _ _ w' (HC.out.upd hu) (HM.out.upd hu) hk)
 have hu0 := (((Upd.refl [] w).alloc (.cells #[.slice ca p.cs.length cc, .slice ma p.ms.length mc] 25)).alloc (.cells #[.slice none 0 0, .slice none 0 0, .slice none 0 0] 31)).alloc (.cells #[.int .i64 0, .slice none 0 0] 110)
 go_enter Tryz.func73, Tryz.ntmps73
 go_upto_region 1 with fail
 have HU0 := Lib.hid hu0
 have HB0 := Lib.hid (alloc3 w (.cells #[.slice ca p.cs.length cc, .slice ma p.ms.length mc] 25) (.cells #[.slice none 0 0, .slice none 0 0, .slice none 0 0] 31) (.cells #[.int .i64 0, .slice none 0 0] 110))
 clear hu0
 generalize ((w.alloc (.cells #[.slice ca p.cs.length cc, .slice ma p.ms.length mc] 25)).alloc (.cells #[.slice none 0 0, .slice none 0 0, .slice none 0 0] 31)).alloc (.cells #[.int .i64 0, .slice none 0 0] 110) = w0 at HU0 HB0 ⊢
 have b0 : w0.heap[w.heap.size]? = some (.cells #[.slice ca p.cs.length cc, .slice ma p.ms.length mc] 25) := HB0.out.1
 have p0 : w0.cell? ⟨w.heap.size, 0, none⟩ = some (.slice ca p.cs.length cc) := by rw [cell_of b0]; rfl
 have p1 : w0.cell? ⟨w.heap.size, 1, none⟩ = some (.slice ma p.ms.length mc) := by rw [cell_of b0]; rfl
 clear b0
 go_wp2_with fail
 refine (HMY.out w0 HU0.out).mono ?_
 rintro e w1 ⟨c, s, b, at_, rfl, hint, hmay, hu1⟩
 have HB1 : Hid (w1.heap[w.heap.size]? = some (.cells #[.slice ca p.cs.length cc, .slice ma p.ms.length mc] 25) ∧ w1.heap[w.heap.size + 1]? = some (.cells #[.slice none 0 0, .slice none 0 0, .slice none 0 0] 31) ∧ w1.heap[w.heap.size + 2]? = some (.cells #[.int .i64 0, .slice none 0 0] 110)) :=
  ⟨hu1.heap HB0.out.1 (by simp), hu1.heap HB0.out.2.1 (by simp), hu1.heap HB0.out.2.2 (by simp)⟩
 have hz1 : w.heap.size + 3 ≤ w1.heap.size := lt_of_heap HB1.out.2.2
 have HU1 := Lib.hid (HU0.out.trans hu1)
 have HINT := Lib.hid hint
 have HMAY := Lib.hid hmay
 clear hint hmay p0 p1 hu1 HB0 HU0
 have p0 : w1.cell? ⟨w.heap.size, 0, none⟩ = some (.slice ca p.cs.length cc) := by rw [cell_of HB1.out.1]; rfl
 have p1 : w1.cell? ⟨w.heap.size, 1, none⟩ = some (.slice ma p.ms.length mc) := by rw [cell_of HB1.out.1]; rfl
 have q0 := fun o => ((Upd.refl [] w1).alloc o).cell p0 (by simp)
 have q1 := fun o => ((Upd.refl [] w1).alloc o).cell p1 (by simp)
 have hss : s = .slice none 0 0 ∨ ∃ n c, s = .slice (some ⟨b, 0, none⟩) n c := by
  rcases HINT.out.1 with h | h
  ·exact .inl h.1
  ·obtain ⟨cap, h⟩ := h; exact .inr ⟨_, _, h⟩
 obtain ⟨sp, sn, sc, rfl⟩ : ∃ sp sn sc, s = .slice sp sn sc := by
  rcases hss with h | ⟨n, c, h⟩
  ·exact ⟨_, _, _, h⟩
  ·exact ⟨_, _, _, h⟩
 clear hss
 go_upto_region 3 with fail
 have hn1 := heap_alloc_new w1 (.cells #[.int .i64 c, .slice sp sn sc] 110)
 have hu2 := (Upd.refl [] w1).alloc (.cells #[.int .i64 c, .slice sp sn sc] 110)
 have hu3 := (Upd.refl [] (w1.alloc (.cells #[.int .i64 c, .slice sp sn sc] 110))).alloc (.cells #[.slice ca p.cs.length cc, .slice ma p.ms.length mc, .slice none 0 0] 31)
 have hn2 := heap_alloc_new (w1.alloc (.cells #[.int .i64 c, .slice sp sn sc] 110)) (.cells #[.slice ca p.cs.length cc, .slice ma p.ms.length mc, .slice none 0 0] 31)
 have hz2 : (w1.alloc (.cells #[.int .i64 c, .slice sp sn sc] 110)).heap.size = w1.heap.size + 1 := by simp
 rw [hz2] at hn2
 have hu4 := hu2.trans hu3
 have HIN : Hid (ROfIn w ((w1.alloc (.cells #[.int .i64 c, .slice sp sn sc] 110)).alloc (.cells #[.slice ca p.cs.length cc, .slice ma p.ms.length mc, .slice none 0 0] 31)) (.slice ca p.cs.length cc) (.slice ma p.ms.length mc) w1.heap.size (w1.heap.size + 1) c (.slice sp sn sc) (.slice none 0 0)) :=
  ⟨hu4.heap HB1.out.1 (by simp), hu4.heap HB1.out.2.1 (by simp), hu4.heap HB1.out.2.2 (by simp), hu3.heap hn1 (by simp), hn2, HU1.out.trans hu4, hz1, by omega⟩
 have HINT2 := Lib.hid (HINT.out.upd hu4 (.inr (by simp)))
 clear hn1 hu2 hu3 hn2 hz2 hu4 p0 p1 q0 q1 HB1 HINT HU1
 generalize (w1.alloc (.cells #[.int .i64 c, .slice sp sn sc] 110)).alloc (.cells #[.slice ca p.cs.length cc, .slice ma p.ms.length mc, .slice none 0 0] 31) = w2 at HIN HINT2 ⊢
 generalize w1.heap.size + 1 = ob at HIN ⊢
 generalize w1.heap.size = fx at HIN hz1 ⊢
 have HREL : Hid (ROfRel p w w2 (.slice ca p.cs.length cc) (.slice ma p.ms.length mc) fx ob 0) := by
  by_cases hz : c = 0
  ·have hmay := HMAY.out
   rw [hz] at hmay
   have hin := HIN.out
   rw [hz] at hin
   exact .inl ⟨hmay.ok, _, [], [], sp, sn, sc, .inl rfl, OwnT.nil _ _, fun _ => rfl, fun j hj => by omega, hin⟩
  ·exact .inr ⟨c, _, _, _, _, b, at_, ⟨hz, .inl HMAY.out⟩, HINT2.out, HIN.out⟩
 clear HIN HINT2 HMAY
 go_wp2_with fail
 go_loopw [6, 7, 8] (fun iv _ _ wr => ∃ i : Nat, i ≤ p.ms.length ∧ iv = .int .i64 i ∧ Hid (ROfRel p w wr (.slice ca p.cs.length cc) (.slice ma p.ms.length mc) fx ob i)) (fun iv _ _ _ => p.ms.length - (intOf iv).toNat)
 case atStart => exact ⟨0, by omega, rfl, HREL.out⟩
 case round =>
  clear HREL
  obtain ⟨i, hi, rfl, HREL⟩ := hrel
  obtain ⟨wo, rfl⟩ : ∃ wo : World, wo = wr := ⟨_, rfl⟩
  rcases HREL.out with ⟨hok, rv, ss, gg, sp, sn, sc, hsl, hown, hnil, hlk, hin⟩ | ⟨c, sl, rp, rn, rc, fb, at_, hbad, hint, hin⟩
  ·have HOK := Lib.hid hok
   have HSL := Lib.hid hsl
   have HOWN := Lib.hid hown
   have HNIL := Lib.hid hnil
   have HLKS := Lib.hid hlk
   have HIN := Lib.hid hin
   clear HREL hsl hok hown hnil hlk hin
   have p0 : wo.cell? ⟨w.heap.size, 0, none⟩ = some (.slice ca p.cs.length cc) := by rw [cell_of HIN.out.hp]; rfl
   have p1 : wo.cell? ⟨w.heap.size, 1, none⟩ = some (.slice ma p.ms.length mc) := by rw [cell_of HIN.out.hp]; rfl
   have x0 : wo.cell? ⟨fx, 0, none⟩ = some (.int .i64 0) := by rw [cell_of HIN.out.hx]; rfl
   by_cases hlt : i < p.ms.length
   ·go_upto_region 6 with fail
    have hli : (p.ms.take i).length = i := by rw [List.length_take]; omega
    have HLI := Lib.hid hli
    obtain ⟨vp, vc, hv⟩ := HOWN.out.shape
    rw [hli] at hv
    subst hv
    clear hli
    have hcall := HLOOK.out HOK.out i hlt wo HIN.out.upd
    have hcode := HOK.out.code1 i hlt
    have HT : Hid (p.ms.take i ++ [p.ms.getD i default] = p.ms.take (i + 1)) := by
     show _ = _
     rw [List.take_succ_eq_append_getElem hlt, List.getD_eq_getElem?_getD, List.getElem?_eq_getElem hlt]
     rfl
    generalize hmm2 : p.ms.getD i default = m at hcall hcode HT
    have HMM := Lib.hid hmm2
    clear hmm2
    go_wp2_with fail
    refine hcall.mono ?_
    rintro e w5 ⟨v, rfl, ⟨gs, gb, mo, c, sl, rfl, hlv⟩, hu5⟩
    clear hcall
    obtain ⟨lp, ln, lc, rfl⟩ : ∃ lp ln lc, sl = .slice lp ln lc := by
     cases hlm : lookM p m with
     | ok s => rw [hlm] at hlv; exact ⟨_, _, _, hlv.2.1⟩
     | error e =>
      obtain ⟨c', pc⟩ := e
      rw [hlm] at hlv
      obtain ⟨_, fb, h | ⟨cap, h⟩, _⟩ := hlv
      ·exact ⟨_, _, _, h.1⟩
      ·exact ⟨_, _, _, h⟩
    have HIN5 := Lib.hid (HIN.out.same hu5)
    have HOWN5 := Lib.hid (HOWN.out.upd hu5)
    have HS5 := Lib.hid HIN.out.upd.size
    have HS6 := Lib.hid hu5.size
    have HLV := Lib.hid hlv
    have hge := HIN.out.ge
    have hlo := lt_of_heap HIN.out.ho
    clear hlv hu5 p0 p1 x0
    go_upto_region 7 with fail
    have hn1 := heap_alloc_new w5 (.cells #[.slice (some ⟨gb, 0, none⟩) m.code.length m.code.length, .slice (some ⟨gs, 0, none⟩) m.code.length m.code.length, .int .i64 mo] 188)
    have hu2 := (Upd.refl [] w5).alloc (.cells #[.slice (some ⟨gb, 0, none⟩) m.code.length m.code.length, .slice (some ⟨gs, 0, none⟩) m.code.length m.code.length, .int .i64 mo] 188)
    have hu3 := (Upd.refl [] (w5.alloc (.cells #[.slice (some ⟨gb, 0, none⟩) m.code.length m.code.length, .slice (some ⟨gs, 0, none⟩) m.code.length m.code.length, .int .i64 mo] 188))).alloc (.cells #[.int .i64 c, .slice lp ln lc] 110)
    have hn2 := heap_alloc_new (w5.alloc (.cells #[.slice (some ⟨gb, 0, none⟩) m.code.length m.code.length, .slice (some ⟨gs, 0, none⟩) m.code.length m.code.length, .int .i64 mo] 188)) (.cells #[.int .i64 c, .slice lp ln lc] 110)
    have hz2 : (w5.alloc (.cells #[.slice (some ⟨gb, 0, none⟩) m.code.length m.code.length, .slice (some ⟨gs, 0, none⟩) m.code.length m.code.length, .int .i64 mo] 188)).heap.size = w5.heap.size + 1 := by simp
    rw [hz2] at hn2
    have hu6 := hu2.trans hu3
    have hx6 := hu3.heap hn1 (by simp)
    have HIN6 := Lib.hid (HIN5.out.same hu6)
    have HU6 := Lib.hid hu6
    clear hn1 hu2 hu3 hz2 hu6
    generalize (w5.alloc (.cells #[.slice (some ⟨gb, 0, none⟩) m.code.length m.code.length, .slice (some ⟨gs, 0, none⟩) m.code.length m.code.length, .int .i64 mo] 188)).alloc (.cells #[.int .i64 c, .slice lp ln lc] 110) = w6 at hx6 hn2 HIN6 HU6 ⊢
    have a0 : w6.cell? ⟨w5.heap.size + 1, 0, none⟩ = some (.int .i64 c) := by rw [cell_of hn2]; rfl
    have a1 : w6.cell? ⟨w5.heap.size + 1, 1, none⟩ = some (.slice lp ln lc) := by rw [cell_of hn2]; rfl
    have c0 : w6.cell? ⟨fx, 0, none⟩ = some (.int .i64 0) := by rw [cell_of HIN6.out.hx]; rfl
    have c1 : w6.cell? ⟨fx, 1, none⟩ = some (.slice sp sn sc) := by rw [cell_of HIN6.out.hx]; rfl
    have f0 := froz_of HIN6.out.hx 0
    have f1 := froz_of HIN6.out.hx 1
    obtain ⟨hin7, hu7⟩ := HIN6.out.fault c (.slice lp ln lc)
    have HIN7 := Lib.hid hin7
    have HU7 := Lib.hid hu7
    have hx7 := hu7.heap hx6 (by have := HS6.out; simp; omega)
    clear hin7 hu7 hn2 hx6
    go_upto_region 8 with fail
    generalize (w6.setCell ⟨fx, 0, none⟩ (.int .i64 c)).setCell ⟨fx, 1, none⟩ (.slice lp ln lc) = w7 at HIN7 HU7 hx7 ⊢
    clear a0 a1 f0 f1 c0 c1
    have l0 : w7.cell? ⟨ob, 2, none⟩ = some (.slice vp i vc) := by rw [cell_of HIN7.out.ho]; rfl
    have x0 : w7.cell? ⟨w5.heap.size, 0, none⟩ = some (.slice (some ⟨gb, 0, none⟩) m.code.length m.code.length) := by rw [cell_of hx7]; rfl
    have x1 : w7.cell? ⟨w5.heap.size, 1, none⟩ = some (.slice (some ⟨gs, 0, none⟩) m.code.length m.code.length) := by rw [cell_of hx7]; rfl
    have x2 : w7.cell? ⟨w5.heap.size, 2, none⟩ = some (.int .i64 mo) := by rw [cell_of hx7]; rfl
    have HBLK := Lib.hid (fun q hq => HOWN5.out.blk q hq)
    have HFX7 : Hid (∀ q, (Value.slice vp i vc).ownBlock = some q → q ≠ fx ∧ q ≠ ob) := fun q hq => by
     obtain ⟨_, _, cur, h3⟩ := HBLK.out q hq
     refine ⟨?_, ?_⟩
     ·rintro rfl
      have h4 := HIN5.out.hx
      rw [h3] at h4
      injection h4 with h4
      injection h4 with _ h4 _
      exact absurd h4 (by decide)
     ·rintro rfl
      have h4 := HIN5.out.ho
      rw [h3] at h4
      injection h4 with h4
      injection h4 with _ h4 _
      exact absurd h4 (by decide)
    have HOWN7 := Lib.hid ((row_upd (row_upd HOWN5.out.row HU6.out (by simp)) HU7.out (fun q hq hm => by rw [List.mem_singleton] at hm; exact (HFX7.out q hq).1 hm)))
    clear hx7
    go_wp2_with (at_builtin; refine stop_here ?_)
    refine Hid.mk ?_
    have hn8 := heap_alloc_new w7 (.cells #[.slice (some ⟨gb, 0, none⟩) m.code.length m.code.length, .slice (some ⟨gs, 0, none⟩) m.code.length m.code.length, .int .i64 mo] 188)
    have hrow := row_upd HOWN7.out ((Upd.refl [] w7).alloc (.cells #[.slice (some ⟨gb, 0, none⟩) m.code.length m.code.length, .slice (some ⟨gs, 0, none⟩) m.code.length m.code.length, .int .i64 mo] 188)) (by simp)
    rw [HLI.out] at hrow
    have hw7 := HIN7.out.upd.size
    have hw3 := lt_of_heap HIN7.out.hf
    have hmany := HOK.out.many
    refine (wpList_append_src rfl _ _ 29 rfl (w.heap.size + 3) 188 ti _ 3 56 Tryz.underlying29 HTI.out HTZ0.out HTZ1.out HTZ2.out rfl (by decide) _ _ _ rfl hrow _ 1 [.slice (some ⟨gb, 0, none⟩) m.code.length m.code.length, .slice (some ⟨gs, 0, none⟩) m.code.length m.code.length, .int .i64 mo] rfl (.inr ⟨_, _, rfl, fun j u hu => by
     rw [Addr.add_lit, Nat.zero_add, cell_of hn8]
     simpa using hu⟩) (by simp) (by simp [Value.oneCell']) (by unfold maxLen; omega) (by omega) (by simp; omega) ?_)
    intro v' w8 hown hgr hat
    clear hat hrow hn8
    have hT : ∀ q ∈ (Value.slice vp i vc).ownBlock.toList, w.heap.size + 3 ≤ q ∧ q ≠ fx ∧ q ≠ ob := fun q hq => by
     have hq := Option.mem_toList.1 hq
     exact ⟨(HBLK.out q hq).1, HFX7.out q hq⟩
    have hwb := ((Upd.refl _ w7).alloc _).grown hgr (fun q hq => Or.inl (Option.mem_toList.2 hq))
    obtain ⟨vp8, vc8, rfl⟩ : ∃ p c, v' = .slice p (i + 1) c := by
     rcases hown.2 with ⟨h1, h2⟩ | ⟨g, c, cur, h1, _⟩
     ·exact ⟨none, 0, by rw [h1, h2]⟩
     ·exact ⟨_, c, h1⟩
    obtain ⟨hin9, hu9⟩ := HIN7.out.looks hwb (fun q hq => (hT q hq).1) (fun h => (hT _ h).2.1 rfl) (fun h => (hT _ h).2.2 rfl) (.slice vp8 (i + 1) vc8)
    have ho8 := hwb.heap HIN7.out.ho (fun h => (hT _ h).2.2 rfl)
    have o2 : w8.cell? ⟨ob, 2, none⟩ = some (.slice vp i vc) := by rw [cell_of ho8]; rfl
    have fo := froz_of ho8 2
    have HREL9 : Hid (ROfRel p w (w8.setCell ⟨ob, 2, none⟩ (.slice vp8 (i + 1) vc8)) (.slice ca p.cs.length cc) (.slice ma p.ms.length mc) fx ob (i + 1)) := by
     have hlv := HLV.out
     have hu7 := HU7.out
     have hu6 := HU6.out
     cases hlm : lookM p m with
     | ok s =>
      rw [hlm] at hlv
      obtain ⟨rfl, hsl, rfl, hlk, _⟩ := hlv
      have off : ∀ (q : Nat) (b : Array Value) (t : TypeId), t ≠ 110 → w6.heap[q]? = some (.cells b t) → q ∉ [fx] := fun q b t ht hq hm => by
       rw [List.mem_singleton] at hm
       rw [hm, HIN6.out.hx] at hq
       injection hq with hq
       injection hq with _ hq _
       exact ht hq.symm
      have hlk6 := hlk.upd hu6 (by simp) (by simp)
      have hlk7 := hlk6.upd hu7 (off _ _ _ (by decide) hlk6.stk) (off _ _ _ (by decide) hlk6.seen)
      have how6 := HOWN5.out.upd hu6
      have how7 := how6.updT hu7 (fun q hq => by obtain ⟨_, _, cur, h3⟩ := how6.blk q hq; exact off q cur _ (by decide) h3) (fun j hj => by
       have h4 := how6.rows j hj
       exact ⟨off _ _ _ (by decide) h4.seen, off _ _ _ (by decide) h4.stk⟩)
      have how8 := how7.push hlk7 (by rw [HLI.out]; exact hown) hgr
      have how9 := how8.store (u := .slice vp8 (i + 1) vc8) ho8
      rw [HT.out] at how9
      rw [hsl] at hin9
      refine .inl ⟨HOK.out, _, _, _, none, 0, 0, .inr rfl, how9, fun h => by omega, fun j hj => ?_, hin9⟩
      have hl1 := HOWN5.out.len
      rw [HLI.out] at hl1
      by_cases e : j < i
      ·rw [getD_snoc_lt _ _ _ _ (by omega)]
       exact HLKS.out j e
      ·have e1 : j = ss.length := by omega
       have e5 : j = i := by omega
       rw [e1, getD_snoc_eq, ← e1, e5, HMM.out]
       exact hlm
     | error e =>
      obtain ⟨c', pc⟩ := e
      rw [hlm] at hlv
      obtain ⟨rfl, fb, hint⟩ := hlv
      have hcc := look_code hlm
      have h5 := ints_off1 hint (q := fx) (by rw [cell_of HIN5.out.hx]; rfl)
      have h6 := ints_off hint (q := ob) (by rw [cell_of HIN5.out.ho]; rfl)
      refine .inr ⟨_, _, _, _, _, fb, _, ⟨by omega, .inr ⟨HOK.out, i, pc, hlt, fun j hj => ⟨_, HLKS.out j hj⟩, by rw [HMM.out]; exact hlm, rfl⟩⟩, ?_, hin9⟩
      refine ((hint.upd hu6 (.inr (by simp))).upd hu7 (.inr (by simpa using h5))).upd hu9 (.inr (fun hm => ?_))
      rcases List.mem_cons.1 hm with hm | hm
      ·exact h6 hm
      ·have hm : (Value.slice vp i vc).ownBlock = some fb := Option.mem_toList.1 hm
       by_cases e : i = 0
       ·have := HNIL.out e
        rw [this] at hm
        exact absurd hm (by simp [Value.ownBlock])
       ·obtain ⟨_, _, _, h7⟩ := HOWN5.out.first (by rw [HLI.out]; omega) fb hm
        exact ints_off hint h7 rfl
    clear hown hgr hT hwb hin9 hu9 ho8
    go_wp2_with fail
    go_roundw
    case rel => exact ⟨i + 1, by omega, by go_num, HREL9.out⟩
    case measure => simp [intOf]; omega
   ·obtain rfl : i = p.ms.length := by omega
    have hone := HOK.out.one
    have hge := HIN.out.ge
    obtain ⟨rp, rc, hv⟩ := HOWN.out.shape
    generalize (p.ms.take p.ms.length).length = rn at hv
    subst hv
    obtain ⟨k1, k2, k3, k4⟩ := HIN.out.ret
    have HUE := Lib.hid k4
    have HEND : Hid (ROfEnd p (retW w wo (.slice ca p.cs.length cc) (.slice ma p.ms.length mc) (.slice rp rn rc) 0 (.slice sp sn sc)) (.slice rp rn rc) 0 (.slice sp sn sc)) := by
     have hown := HOWN.out.offR HIN.out.hr HIN.out.hf k3
     rw [List.take_length] at hown
     refine .inl ⟨HOK.out, rfl, (HSL.out.elim (fun h => by omega) id), ss, hown.len, HLKS.out, hown.looks (fun j hj => ?_)⟩
     have hg := look_good (by have := HOK.out.code1 j hj; omega) (HLKS.out j hj)
     exact ⟨hg.2.1.stk, hg.2.1.seen⟩
    have d0 := cell_of k1 0
    have d1 := cell_of k1 1
    have d2 := cell_of k1 2
    have d3 := cell_of k2 0
    have d4 := cell_of k2 1
    clear k1 k2 k3 k4
    unfold retW at d0 d1 d2 d3 d4 HUE HEND
    simp at d0 d1 d2 d3 d4
    go_upto_region 9 with fail
    have e0 : wo.cell? ⟨ob, 0, none⟩ = some (.slice ca p.cs.length cc) := by rw [cell_of HIN.out.ho]; rfl
    have e1 : wo.cell? ⟨ob, 1, none⟩ = some (.slice ma p.ms.length mc) := by rw [cell_of HIN.out.ho]; rfl
    have e2 : wo.cell? ⟨ob, 2, none⟩ = some (.slice rp rn rc) := by rw [cell_of HIN.out.ho]; rfl
    have e3 : wo.cell? ⟨fx, 0, none⟩ = some (.int .i64 0) := by rw [cell_of HIN.out.hx]; rfl
    have e4 : wo.cell? ⟨fx, 1, none⟩ = some (.slice sp sn sc) := by rw [cell_of HIN.out.hx]; rfl
    have r0 : wo.cell? ⟨w.heap.size + 1, 0, none⟩ = some (.slice none 0 0) := by rw [cell_of HIN.out.hr]; rfl
    have r1 : wo.cell? ⟨w.heap.size + 1, 1, none⟩ = some (.slice none 0 0) := by rw [cell_of HIN.out.hr]; rfl
    have r2 : wo.cell? ⟨w.heap.size + 1, 2, none⟩ = some (.slice none 0 0) := by rw [cell_of HIN.out.hr]; rfl
    have r3 : wo.cell? ⟨w.heap.size + 1 + 1, 0, none⟩ = some (.int .i64 0) := by rw [cell_of HIN.out.hf]; rfl
    have r4 : wo.cell? ⟨w.heap.size + 1 + 1, 1, none⟩ = some (.slice none 0 0) := by rw [cell_of HIN.out.hf]; rfl
    have y0 := froz_of HIN.out.hr 0
    have y1 := froz_of HIN.out.hr 1
    have y2 := froz_of HIN.out.hr 2
    have y3 := froz_of HIN.out.hf 0
    have y4 := froz_of HIN.out.hf 1
    go_region
    all_goals
     go_wp2_with fail
     refine bodyPost_ret (v := .tuple #[.agg #[.slice ca p.cs.length cc, .slice ma p.ms.length mc, .slice rp rn rc], .agg #[.int .i64 0, (.slice sp sn sc)]]) (by simp [results, Tryz.results73, go_sem, d0, d1, d2, d3, d4]) rfl ?_
     exact ⟨_, _, _, _, _, _, _, rfl, HEND.out, HUE.out⟩
  ·have hge := hin.ge
   have HBAD := Lib.hid hbad
   obtain ⟨lp, ln, lc, rfl⟩ : ∃ lp ln lc, sl = .slice lp ln lc := by
    rcases hint.1 with h | ⟨cap, h⟩
    ·exact ⟨_, _, _, h.1⟩
    ·exact ⟨_, _, _, h⟩
   obtain ⟨k1, k2, k3, k4⟩ := hin.ret
   have HUE := Lib.hid k4
   have HEND : Hid (ROfEnd p (retW w wo (.slice ca p.cs.length cc) (.slice ma p.ms.length mc) (.slice rp rn rc) c (.slice lp ln lc)) (.slice rp rn rc) c (.slice lp ln lc)) := by
    refine .inr ⟨fb, at_, hbad, hint.upd k3 ?_⟩
    rcases hbad.place with h | ⟨a, b, rfl⟩
    ·exact .inl h
    ·have h1 := ints_off hint (q := w.heap.size + 1) (by rw [cell_of hin.hr]; rfl)
     have h2 := ints_off1 hint (q := w.heap.size + 2) (by rw [cell_of hin.hf]; rfl)
     exact .inr (by simp; exact ⟨h1, h2⟩)
   have d0 := cell_of k1 0
   have d1 := cell_of k1 1
   have d2 := cell_of k1 2
   have d3 := cell_of k2 0
   have d4 := cell_of k2 1
   clear k1 k2 k3 k4
   unfold retW at d0 d1 d2 d3 d4 HUE HEND
   simp at d0 d1 d2 d3 d4
   have p0 : wo.cell? ⟨w.heap.size, 0, none⟩ = some (.slice ca p.cs.length cc) := by rw [cell_of hin.hp]; rfl
   have p1 : wo.cell? ⟨w.heap.size, 1, none⟩ = some (.slice ma p.ms.length mc) := by rw [cell_of hin.hp]; rfl
   have x0 : wo.cell? ⟨fx, 0, none⟩ = some (.int .i64 c) := by rw [cell_of hin.hx]; rfl
   have dc : (c == 0) = false := by rw [beq_eq_false_iff_ne]; exact hbad.1
   have HIN := Lib.hid hin
   clear HREL hbad hint hin
   by_cases hlt : i < p.ms.length
   ·go_upto_region 9 with fail
    have e0 : wo.cell? ⟨ob, 0, none⟩ = some (.slice ca p.cs.length cc) := by rw [cell_of HIN.out.ho]; rfl
    have e1 : wo.cell? ⟨ob, 1, none⟩ = some (.slice ma p.ms.length mc) := by rw [cell_of HIN.out.ho]; rfl
    have e2 : wo.cell? ⟨ob, 2, none⟩ = some (.slice rp rn rc) := by rw [cell_of HIN.out.ho]; rfl
    have e3 : wo.cell? ⟨fx, 0, none⟩ = some (.int .i64 c) := by rw [cell_of HIN.out.hx]; rfl
    have e4 : wo.cell? ⟨fx, 1, none⟩ = some (.slice lp ln lc) := by rw [cell_of HIN.out.hx]; rfl
    have r0 : wo.cell? ⟨w.heap.size + 1, 0, none⟩ = some (.slice none 0 0) := by rw [cell_of HIN.out.hr]; rfl
    have r1 : wo.cell? ⟨w.heap.size + 1, 1, none⟩ = some (.slice none 0 0) := by rw [cell_of HIN.out.hr]; rfl
    have r2 : wo.cell? ⟨w.heap.size + 1, 2, none⟩ = some (.slice none 0 0) := by rw [cell_of HIN.out.hr]; rfl
    have r3 : wo.cell? ⟨w.heap.size + 1 + 1, 0, none⟩ = some (.int .i64 0) := by rw [cell_of HIN.out.hf]; rfl
    have r4 : wo.cell? ⟨w.heap.size + 1 + 1, 1, none⟩ = some (.slice none 0 0) := by rw [cell_of HIN.out.hf]; rfl
    have y0 := froz_of HIN.out.hr 0
    have y1 := froz_of HIN.out.hr 1
    have y2 := froz_of HIN.out.hr 2
    have y3 := froz_of HIN.out.hf 0
    have y4 := froz_of HIN.out.hf 1
    go_region
    all_goals
     go_wp2_with fail
     refine bodyPost_ret (v := .tuple #[.agg #[.slice ca p.cs.length cc, .slice ma p.ms.length mc, .slice rp rn rc], .agg #[.int .i64 c, .slice lp ln lc]]) (by simp [results, Tryz.results73, go_sem, d0, d1, d2, d3, d4]) rfl ?_
     exact ⟨_, _, _, _, _, _, _, rfl, HEND.out, HUE.out⟩
   ·obtain rfl : i = p.ms.length := by omega
    go_upto_region 9 with fail
    have e0 : wo.cell? ⟨ob, 0, none⟩ = some (.slice ca p.cs.length cc) := by rw [cell_of HIN.out.ho]; rfl
    have e1 : wo.cell? ⟨ob, 1, none⟩ = some (.slice ma p.ms.length mc) := by rw [cell_of HIN.out.ho]; rfl
    have e2 : wo.cell? ⟨ob, 2, none⟩ = some (.slice rp rn rc) := by rw [cell_of HIN.out.ho]; rfl
    have e3 : wo.cell? ⟨fx, 0, none⟩ = some (.int .i64 c) := by rw [cell_of HIN.out.hx]; rfl
    have e4 : wo.cell? ⟨fx, 1, none⟩ = some (.slice lp ln lc) := by rw [cell_of HIN.out.hx]; rfl
    have r0 : wo.cell? ⟨w.heap.size + 1, 0, none⟩ = some (.slice none 0 0) := by rw [cell_of HIN.out.hr]; rfl
    have r1 : wo.cell? ⟨w.heap.size + 1, 1, none⟩ = some (.slice none 0 0) := by rw [cell_of HIN.out.hr]; rfl
    have r2 : wo.cell? ⟨w.heap.size + 1, 2, none⟩ = some (.slice none 0 0) := by rw [cell_of HIN.out.hr]; rfl
    have r3 : wo.cell? ⟨w.heap.size + 1 + 1, 0, none⟩ = some (.int .i64 0) := by rw [cell_of HIN.out.hf]; rfl
    have r4 : wo.cell? ⟨w.heap.size + 1 + 1, 1, none⟩ = some (.slice none 0 0) := by rw [cell_of HIN.out.hf]; rfl
    have y0 := froz_of HIN.out.hr 0
    have y1 := froz_of HIN.out.hr 1
    have y2 := froz_of HIN.out.hr 2
    have y3 := froz_of HIN.out.hf 0
    have y4 := froz_of HIN.out.hf 1
    go_region
    all_goals
     go_wp2_with fail
     refine bodyPost_ret (v := .tuple #[.agg #[.slice ca p.cs.length cc, .slice ma p.ms.length mc, .slice rp rn rc], .agg #[.int .i64 c, .slice lp ln lc]]) (by simp [results, Tryz.results73, go_sem, d0, d1, d2, d3, d4]) rfl ?_
     exact ⟨_, _, _, _, _, _, _, rfl, HEND.out, HUE.out⟩
end Go.Proofs.YtojobkhidlfeoaaGreatDoor

/-! overdriveworld.Info. -/
/-! overdriveworld.Info. -/
namespace Go.Proofs.YtojobkhidlfeoaaGreatDoor
open Go.RowKit

theorem slices_only {w : World} {x j : Nat} {p1 p2 p3 : Option Addr} {n1 n2 n3 c1 c2 c3 : Nat} {t : TypeId} {u : Value} (hb : w.heap[x]? = some (.cells #[.slice p1 n1 c1, .slice p2 n2 c2, .slice p3 n3 c3] t)) (hc : w.cell? ⟨x, j, none⟩ = some u) : ∃ p n c, u = .slice p n c := by
 rw [cell_of hb] at hc
 match j, hc with
 | 0, hc => injection hc with hc; exact ⟨_, _, _, hc.symm⟩
 | 1, hc => injection hc with hc; exact ⟨_, _, _, hc.symm⟩
 | 2, hc => injection hc with hc; exact ⟨_, _, _, hc.symm⟩
 | j + 3, hc => simp at hc
theorem LksT.offI {w w' : World} {v : Value} {ms : List Meth} {ss : List Lk} {x : Nat} {p1 p2 p3 : Option Addr} {n1 n2 n3 c1 c2 c3 : Nat} {t : TypeId} (h : LksT w v ms ss) (hb : w.heap[x]? = some (.cells #[.slice p1 n1 c1, .slice p2 n2 c2, .slice p3 n3 c3] t)) (hu : Upd [x] w w') : LksT w' v ms ss := by
 obtain ⟨a, cap, h1, h2, h3⟩ := h
 refine ⟨a, cap, h1, h2, fun i hi => ?_⟩
 obtain ⟨b, o, gs, gb, h4, h5, h6, h7, h8⟩ := h3 i hi
 have hbx : b ∉ [x] := fun hm => by
  rw [List.mem_singleton] at hm
  rw [hm] at h7
  obtain ⟨_, _, _, h⟩ := slices_only hb h7
  cases h
 refine ⟨b, o, gs, gb, h4, hu.cell h5 hbx, hu.cell h6 hbx, hu.cell h7 hbx, fun q hq => ⟨hu.cell (h8 q hq).1 (fun hm => ?_), hu.cell (h8 q hq).2 (fun hm => ?_)⟩⟩
 ·have h9 := (h8 q hq).1
  rw [List.mem_singleton] at hm
  simp only at hm
  rw [hm] at h9
  obtain ⟨_, _, _, h⟩ := slices_only hb h9
  cases h
 ·have h9 := (h8 q hq).2
  rw [List.mem_singleton] at hm
  simp only at hm
  rw [hm] at h9
  obtain ⟨_, _, _, h⟩ := slices_only hb h9
  cases h

/-- What Info knows, if it is good. -/
def RInfo (p : Prg) (w' : World) (cv mv v0 v1 v2 : Value) : Prop := p.Ok ∧ v0 = cv ∧ v1 = mv ∧ ∃ ss, ss.length = p.ms.length ∧ (∀ j, j < p.ms.length → lookM p (p.ms.getD j default) = .ok (ss.getD j default)) ∧ LksT w' v2 p.ms ss

set_option maxRecDepth 100000 in
set_option maxHeartbeats 4000000 in
theorem winfo_any (p : Prg) (cv mv : Value) (w : World) (hc : ClassAt w cv p.cs) (hm : MethsAt w mv p.ms) :
  Calls Tryz.prog 37 #[.agg #[cv, mv]] w fun e w' => ∃ a0 n0 c0 a1 n1 c1 a2 n2 c2 b, e = .returned (.tuple #[.agg #[.slice a0 n0 c0, .slice a1 n1 c1, .slice a2 n2 c2], .bool b]) ∧ (b = true → RInfo p w' cv mv (.slice a0 n0 c0) (.slice a1 n1 c1) (.slice a2 n2 c2)) ∧ Upd [] w w' := by
 have HC := Lib.hid hc
 have HM := Lib.hid hm
 obtain ⟨ca, cc, rfl, _⟩ := hc
 obtain ⟨ma, mc, rfl, _⟩ := hm
 have HLT := Lib.hid (fun w' (hu : Upd [] w w') => light_any p _ _ w' (HC.out.upd hu) (HM.out.upd hu))
 have HOF := Lib.hid (fun w' (hu : Upd [] w w') => rof_any p _ _ w' (HC.out.upd hu) (HM.out.upd hu))
 have hu0 := ((Upd.refl [] w).alloc (.cells #[.slice ca p.cs.length cc, .slice ma p.ms.length mc] 25)).alloc (.cells #[.slice none 0 0, .slice none 0 0, .slice none 0 0] 31)
 have hb0 := ((Upd.refl [] (w.alloc (.cells #[.slice ca p.cs.length cc, .slice ma p.ms.length mc] 25))).alloc (.cells #[.slice none 0 0, .slice none 0 0, .slice none 0 0] 31)).heap (heap_alloc_new w _) (by simp)
 have hr0 := heap_alloc_new (w.alloc (.cells #[.slice ca p.cs.length cc, .slice ma p.ms.length mc] 25)) (.cells #[.slice none 0 0, .slice none 0 0, .slice none 0 0] 31)
 have hz : (w.alloc (.cells #[.slice ca p.cs.length cc, .slice ma p.ms.length mc] 25)).heap.size = w.heap.size + 1 := by simp
 rw [hz] at hr0
 go_enter Tryz.func37, Tryz.ntmps37
 go_upto_region 1 with fail
 generalize (w.alloc (.cells #[.slice ca p.cs.length cc, .slice ma p.ms.length mc] 25)).alloc (.cells #[.slice none 0 0, .slice none 0 0, .slice none 0 0] 31) = w0 at hu0 hb0 hr0 ⊢
 have p0 : w0.cell? ⟨w.heap.size, 0, none⟩ = some (.slice ca p.cs.length cc) := by rw [cell_of hb0]; rfl
 have p1 : w0.cell? ⟨w.heap.size, 1, none⟩ = some (.slice ma p.ms.length mc) := by rw [cell_of hb0]; rfl
 go_wp2_with fail
 refine (HLT.out w0 hu0).mono ?_
 rintro e w1 ⟨⟨b, rfl⟩, hu1⟩
 have hb1 := hu1.heap hb0 (by simp)
 have hr1 := hu1.heap hr0 (by simp)
 have HU1 := Lib.hid (hu0.trans hu1)
 clear hb0 hr0 p0 p1 hu0 hu1 hz
 have p0 : w1.cell? ⟨w.heap.size, 0, none⟩ = some (.slice ca p.cs.length cc) := by rw [cell_of hb1]; rfl
 have p1 : w1.cell? ⟨w.heap.size, 1, none⟩ = some (.slice ma p.ms.length mc) := by rw [cell_of hb1]; rfl
 have r0 : w1.cell? ⟨w.heap.size + 1, 0, none⟩ = some (.slice none 0 0) := by rw [cell_of hr1]; rfl
 have r1 : w1.cell? ⟨w.heap.size + 1, 1, none⟩ = some (.slice none 0 0) := by rw [cell_of hr1]; rfl
 have r2 : w1.cell? ⟨w.heap.size + 1, 2, none⟩ = some (.slice none 0 0) := by rw [cell_of hr1]; rfl
 have y0 := froz_of hr1 0
 have y1 := froz_of hr1 1
 have y2 := froz_of hr1 2
 cases b with
 | false =>
  have k3 := heap_setCell (heap_setCell (heap_setCell hr1 0 (.slice none 0 0)) 1 (.slice none 0 0)) 2 (.slice none 0 0)
  have u3 : Upd [w.heap.size + 1] w1 (((w1.setCell ⟨w.heap.size + 1, 0, none⟩ (.slice none 0 0)).setCell ⟨w.heap.size + 1, 1, none⟩ (.slice none 0 0)).setCell ⟨w.heap.size + 1, 2, none⟩ (.slice none 0 0)) :=
   (((Upd.refl _ w1).setCell (.inl (by simp)) _).setCell (.inl (by simp)) _).setCell (.inl (by simp)) _
  have HUE := Lib.hid (HU1.out.trans' u3 (fun i hi hl => by rw [List.mem_singleton] at hi; omega))
  have d0 := cell_of k3 0
  have d1 := cell_of k3 1
  have d2 := cell_of k3 2
  simp at d0 d1 d2
  clear k3 u3
  go_wp2_with fail
  refine bodyPost_ret (v := .tuple #[.agg #[.slice none 0 0, .slice none 0 0, .slice none 0 0], .bool false]) (by simp [results, Tryz.results37, go_sem, d0, d1, d2]) rfl ?_
  exact ⟨_, _, _, _, _, _, _, _, _, false, rfl, (fun h => by cases h), HUE.out⟩
 | true =>
  go_wp2_with fail
  refine (HOF.out w1 HU1.out).mono ?_
  rintro e w3 ⟨rp, rn, rc, c, lp, ln, lc, rfl, hend, hu3⟩
  have HEND := Lib.hid hend
  have hr3 := hu3.heap hr1 (by simp)
  have HU3 := Lib.hid (HU1.out.trans hu3)
  clear hr1 hb1 p0 p1 r0 r1 r2 y0 y1 y2 hend hu3
  have hn1 := heap_alloc_new w3 (.cells #[.slice ca p.cs.length cc, .slice ma p.ms.length mc, .slice rp rn rc] 31)
  have hu4 := (Upd.refl [] w3).alloc (.cells #[.slice ca p.cs.length cc, .slice ma p.ms.length mc, .slice rp rn rc] 31)
  have hu5 := (Upd.refl [] (w3.alloc (.cells #[.slice ca p.cs.length cc, .slice ma p.ms.length mc, .slice rp rn rc] 31))).alloc (.cells #[.int .i64 c, .slice lp ln lc] 110)
  have hn2 := heap_alloc_new (w3.alloc (.cells #[.slice ca p.cs.length cc, .slice ma p.ms.length mc, .slice rp rn rc] 31)) (.cells #[.int .i64 c, .slice lp ln lc] 110)
  have hz : (w3.alloc (.cells #[.slice ca p.cs.length cc, .slice ma p.ms.length mc, .slice rp rn rc] 31)).heap.size = w3.heap.size + 1 := by simp
  rw [hz] at hn2
  have hn3 := hu5.heap hn1 (by simp)
  have hr5 := (hu4.trans hu5).heap hr3 (by simp)
  have HU5 := Lib.hid (hu4.trans hu5)
  have hlt3 := lt_of_heap hr3
  clear hn1 hu4 hu5 hz hr3
  go_upto_region 4 with fail
  generalize (w3.alloc (.cells #[.slice ca p.cs.length cc, .slice ma p.ms.length mc, .slice rp rn rc] 31)).alloc (.cells #[.int .i64 c, .slice lp ln lc] 110) = w5 at hn2 hn3 hr5 HU5 ⊢
  have e0 : w5.cell? ⟨w3.heap.size, 0, none⟩ = some (.slice ca p.cs.length cc) := by rw [cell_of hn3]; rfl
  have e1 : w5.cell? ⟨w3.heap.size, 1, none⟩ = some (.slice ma p.ms.length mc) := by rw [cell_of hn3]; rfl
  have e2 : w5.cell? ⟨w3.heap.size, 2, none⟩ = some (.slice rp rn rc) := by rw [cell_of hn3]; rfl
  have e3 : w5.cell? ⟨w3.heap.size + 1, 0, none⟩ = some (.int .i64 c) := by rw [cell_of hn2]; rfl
  have r0 : w5.cell? ⟨w.heap.size + 1, 0, none⟩ = some (.slice none 0 0) := by rw [cell_of hr5]; rfl
  have r1 : w5.cell? ⟨w.heap.size + 1, 1, none⟩ = some (.slice none 0 0) := by rw [cell_of hr5]; rfl
  have r2 : w5.cell? ⟨w.heap.size + 1, 2, none⟩ = some (.slice none 0 0) := by rw [cell_of hr5]; rfl
  have y0 := froz_of hr5 0
  have y1 := froz_of hr5 1
  have y2 := froz_of hr5 2
  have k3 := heap_setCell (heap_setCell (heap_setCell hr5 0 (.slice ca p.cs.length cc)) 1 (.slice ma p.ms.length mc)) 2 (.slice rp rn rc)
  have u3 : Upd [w.heap.size + 1] w5 (((w5.setCell ⟨w.heap.size + 1, 0, none⟩ (.slice ca p.cs.length cc)).setCell ⟨w.heap.size + 1, 1, none⟩ (.slice ma p.ms.length mc)).setCell ⟨w.heap.size + 1, 2, none⟩ (.slice rp rn rc)) :=
   (((Upd.refl _ w5).setCell (.inl (by simp)) _).setCell (.inl (by simp)) _).setCell (.inl (by simp)) _
  have HUE := Lib.hid (((HU3.out.trans HU5.out).trans' u3 (fun i hi hl => by rw [List.mem_singleton] at hi; omega)).drew)
  have HRI : Hid ((c == 0) = true → RInfo p ((((w5.setCell ⟨w.heap.size + 1, 0, none⟩ (.slice ca p.cs.length cc)).setCell ⟨w.heap.size + 1, 1, none⟩ (.slice ma p.ms.length mc)).setCell ⟨w.heap.size + 1, 2, none⟩ (.slice rp rn rc)).drew) (.slice ca p.cs.length cc) (.slice ma p.ms.length mc) (.slice ca p.cs.length cc) (.slice ma p.ms.length mc) (.slice rp rn rc)) := fun h0 => by
   have h0 : c = 0 := by simpa using h0
   rcases HEND.out with ⟨hok, _, _, ss, h1, h2, h3⟩ | ⟨_, _, hb, _⟩
   ·exact ⟨hok, rfl, rfl, ss, h1, h2, (h3.upd HU5.out).offI hr5 u3.drew⟩
   ·exact absurd h0 hb.1
  have d0 := cell_of k3 0
  have d1 := cell_of k3 1
  have d2 := cell_of k3 2
  simp at d0 d1 d2
  clear k3 u3 hn2 hn3 hr5
  go_region
  all_goals
   go_wp2_with fail
   refine bodyPost_ret (v := .tuple #[.agg #[.slice ca p.cs.length cc, .slice ma p.ms.length mc, .slice rp rn rc], .bool (c == 0)]) (by simp [results, Tryz.results37, go_sem, d0, d1, d2]) rfl ?_
   exact ⟨_, _, _, _, _, _, _, _, _, _, rfl, HRI.out, HUE.out⟩
end Go.Proofs.YtojobkhidlfeoaaGreatDoor
