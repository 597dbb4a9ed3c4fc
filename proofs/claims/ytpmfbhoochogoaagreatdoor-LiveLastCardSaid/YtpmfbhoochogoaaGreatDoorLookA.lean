/- What verify.look makes and turns in memory. -/
import Derived.Test.YtpmfbhoochogoaaGreatDoorStepW
import Derived.Test.YtpmfbhoochogoaaGreatDoorVerL2
import Derived.Test.YtpmfbhoochogoaaGreatDoorNext
import Derived.Test.YtpmfbhoochogoaaGreatDoorBools
namespace Go.Proofs.YtpmfbhoochogoaaGreatDoor
open Go.RowKit

/-- Texts as cells. -/
def scells (xs : List (List UInt8)) : Array Value := (xs.map fun l => Value.string (bs l)).toArray
theorem scells_get (xs : List (List UInt8)) (i : Nat) (h : i < xs.length) : (scells xs)[i]? = some (.string (bs (xs.getD i []))) := by simp [scells, h]
theorem scells_set (xs : List (List UInt8)) (i : Nat) (v : List UInt8) : (scells xs).setIfInBounds i (.string (bs v)) = scells (xs.set i v) := by simp [scells, List.map_set]

theorem Tryz.infoStr : (Tryz.prog.info? 9).map (fun i => (i.zero, i.size, i.bytes)) = some (some (.string ⟨#[]⟩), 1, 16) := by kernel_rfl
theorem make_strs (w : World) (m : Nat) (h : m ≤ 1000000) : (Instr.makeSlice 105 (.int .i64 (m : Int)) (.int .i64 (m : Int))).run Tryz.prog w = .ok (.slice (some ⟨w.heap.size, 0, none⟩) m m) (w.alloc (.cells (scells (List.replicate m [])) 9)) := by
  obtain ⟨i0, hi, hz0, hz1, hz2⟩ := info_parts Tryz.infoStr
  have hmk := run_make (P := Tryz.prog) w 105 9 i0 (.string ⟨#[]⟩) Tryz.underlying105 hi hz0 .i64 .i64 (m : Int) (m : Int) (by omega) (by omega) (by rw [hz2]; omega) (by omega)
  rw [hz1, Nat.mul_one] at hmk
  have e : madeCells (Value.string ⟨#[]⟩).cells m = scells (List.replicate m []) := by
    unfold madeCells scells
    apply Array.ext_getElem?
    intro i
    by_cases h : i < m
    · simp [h, Value.cells, Nat.mod_one, bs]
    · simp [h]
  simpa [e] using hmk

/-- What is known of a method, in memory: its two rows. -/
structure LkAt (w : World) (gs gb : Nat) (s : Lk) : Prop where
  stk : w.heap[gs]? = some (.cells (scells s.stk) 9)
  seen : w.heap[gb]? = some (.cells (bcells s.seen) 4)
theorem LkAt.upd {w w' : World} {gs gb : Nat} {s : Lk} {T : List Nat} (h : LkAt w gs gb s) (hu : Upd T w w') (h1 : gs ∉ T) (h2 : gb ∉ T) : LkAt w' gs gb s := ⟨hu.heap h.stk h1, hu.heap h.seen h2⟩

/-- What look answers. -/
def lookV (E : Nat → Addr) (w' : World) (B : Nat) (v : Value) (n : Nat) (r : Except (Int × Nat) Lk) : Prop := match r with
  | .ok s => ∃ gs gb, v = .tuple #[.agg #[.slice (some ⟨gs, 0, none⟩) n n, .slice (some ⟨gb, 0, none⟩) n n, .int .i64 s.most], .int .i64 0, .nilIface] ∧ LkAt w' gs gb s ∧ B ≤ gs ∧ B ≤ gb ∧ gs < w'.heap.size ∧ gb < w'.heap.size
  | .error (c, pc) => v = .tuple #[.agg #[.slice none 0 0, .slice none 0 0, .int .i64 0], .int .i64 pc, errC E c]

/-- The rows and the box that look makes. -/
def LookPre (n : Nat) (w wx : World) (v : Value) : Prop := ∃ xb gs gb, v = .pointer (some ⟨xb, 0, none⟩) ∧
  wx.heap[xb]? = some (.cells #[.slice (some ⟨gs, 0, none⟩) n n, .slice (some ⟨gb, 0, none⟩) n n, .int .i64 0] 107) ∧
  wx.heap[gs]? = some (.cells (scells (List.replicate n [])) 9) ∧ wx.heap[gb]? = some (.cells (bcells (List.replicate n false)) 4) ∧
  (w.heap.size ≤ xb ∧ w.heap.size ≤ gs ∧ w.heap.size ≤ gb ∧ xb ≠ gs ∧ xb ≠ gb ∧ gs ≠ gb) ∧ Upd [] w wx

theorem alloc_get2 (w : World) (o : Obj) (k : Nat) : (w.alloc o).heap[k]? = if k = w.heap.size then some o else w.heap[k]? := by
  show (w.heap.push o)[k]? = _
  rw [Array.getElem?_push]
theorem alloc3 (w : World) (a b c : Obj) : (((w.alloc a).alloc b).alloc c).drew.heap[w.heap.size]? = some a ∧ (((w.alloc a).alloc b).alloc c).drew.heap[w.heap.size + 1]? = some b ∧ (((w.alloc a).alloc b).alloc c).drew.heap[w.heap.size + 1 + 1]? = some c := by
  refine ⟨?_, ?_, ?_⟩
  · show (((w.alloc a).alloc b).alloc c).heap[w.heap.size]? = _
    rw [alloc_get2, alloc_get2, alloc_get2]
    simp only [World.size_alloc]
    rw [if_neg (by omega), if_neg (by omega), if_pos trivial]
  · show (((w.alloc a).alloc b).alloc c).heap[w.heap.size + 1]? = _
    rw [alloc_get2, alloc_get2]
    simp only [World.size_alloc]
    rw [if_neg (by omega), if_pos trivial]
  · show (((w.alloc a).alloc b).alloc c).heap[w.heap.size + 1 + 1]? = _
    rw [alloc_get2]
    simp only [World.size_alloc]
    rw [if_pos trivial]
theorem upd3 (w : World) (a b c : Obj) : Upd [] w (((w.alloc a).alloc b).alloc c).drew := ((((Upd.refl [] w).alloc a).alloc b).alloc c).drew

/-- How many places are open, by the row in memory. -/
def opn : Value → Bool
  | .bool true => false
  | _ => true
def openN (w : World) (b : Nat) : Nat := match w.heap[b]? with
  | some (.cells c _ _) => c.toList.countP opn
  | _ => 0
theorem opn_count : ∀ xs : List Bool, (xs.map Value.bool).countP opn + xs.count true = xs.length
  | [] => rfl
  | a :: t => by
    have ih := opn_count t
    cases a
    · rw [List.map_cons, List.countP_cons_of_pos (by rfl), List.count_cons_of_ne (by decide), List.length_cons]; omega
    · rw [List.map_cons, List.countP_cons_of_neg (by decide), List.count_cons_self, List.length_cons]; omega
theorem openN_of {w : World} {b : Nat} {xs : List Bool} {t : TypeId} (h : w.heap[b]? = some (.cells (bcells xs) t)) : openN w b = xs.length - xs.count true := by
  unfold openN
  rw [h]
  show List.countP _ (xs.map Value.bool) = _
  have := opn_count xs
  omega

theorem errC_iface (E : Nat → Addr) (c : Int) (h : c ≠ 0) : errC E c = .iface 271 (.pointer (some (E (c - 101).toNat))) := by
  unfold errC sErr
  rw [if_neg h]
theorem beh_code {p : Prg} {m : Meth} {x : Ins} {s : List UInt8} {c : Int} (h : behL p m x s = .error c) : c = 102 ∨ c = 108 := by
  revert h
  unfold behL
  simp only
  have out : ∀ u : List UInt8, (if 12 < u.length ∨ x.op = 33 ∧ u ≠ [] then (.error 108 : Except Int (List UInt8)) else .ok u) = .error c → c = 102 ∨ c = 108 := by
    intro u hu
    split at hu
    · injection hu with e; exact .inr e.symm
    · cases hu
  refine ite_inv ?_ (ite_inv ?_ (ite_inv ?_ ?_))
  · exact ite_inv (fun e => by injection e with e; exact .inr e.symm) (out _)
  · exact ite_inv (fun e => by injection e with e; exact .inr e.symm) (out _)
  · exact ite_inv (fun e => by injection e with e; exact .inr e.symm) (out _)
  · split
    · exact ite_inv (fun e => by injection e with e; exact .inr e.symm) (ite_inv (fun e => by injection e with e; exact .inl e.symm) (out _))
    · exact out _

/-- In the midst of look: the boxes, the rows. -/
structure LookIn (w wr : World) (cv mv kv : Value) (m : Meth) (n xb gs gb db : Nat) (s : Lk) : Prop where
  hpb : wr.heap[w.heap.size]? = some (.cells #[cv, mv] 36)
  hmb : wr.heap[w.heap.size + 1]? = some (.cells #[.string m.params, .string m.locals, .string m.ret, kv] 27)
  hrb : wr.heap[w.heap.size + 1 + 1]? = some (.cells #[.slice none 0 0, .slice none 0 0, .int .i64 0] 107)
  hxb : wr.heap[xb]? = some (.cells #[.slice (some ⟨gs, 0, none⟩) n n, .slice (some ⟨gb, 0, none⟩) n n, .int .i64 s.most] 107)
  hgs : wr.heap[gs]? = some (.cells (scells s.stk) 9)
  hgb : wr.heap[gb]? = some (.cells (bcells s.seen) 4)
  hdb : wr.heap[db]? = some (.cells (bcells s.done) 4)
  upd : Upd [] w wr
  ge : w.heap.size + 3 ≤ xb ∧ w.heap.size + 3 ≤ gs ∧ w.heap.size + 3 ≤ gb ∧ w.heap.size + 3 ≤ db
  ne : xb ≠ gs ∧ xb ≠ gb ∧ xb ≠ db ∧ gs ≠ gb ∧ gs ≠ db ∧ gb ≠ db
theorem LookIn.same {w wr w' : World} {cv mv kv : Value} {m : Meth} {n xb gs gb db : Nat} {s : Lk} (h : LookIn w wr cv mv kv m n xb gs gb db s) (hu : Upd [] wr w') : LookIn w w' cv mv kv m n xb gs gb db s :=
  ⟨hu.heap h.hpb (by simp), hu.heap h.hmb (by simp), hu.heap h.hrb (by simp), hu.heap h.hxb (by simp), hu.heap h.hgs (by simp), hu.heap h.hgb (by simp), hu.heap h.hdb (by simp), h.upd.trans hu, h.ge, h.ne⟩
/-- A place is marked as done. -/
theorem LookIn.done_ {w wr : World} {cv mv kv : Value} {m : Meth} {n xb gs gb db : Nat} {s : Lk} (h : LookIn w wr cv mv kv m n xb gs gb db s) (pc : Nat) :
    LookIn w (wr.setCell ⟨db, pc, none⟩ (.bool true)) cv mv kv m n xb gs gb db { s with done := s.done.set pc true } := by
  have hu : Upd [db] wr (wr.setCell ⟨db, pc, none⟩ (.bool true)) := (Upd.refl _ _).setCell (.inl (by simp)) _
  have hge := h.ge
  have hne := h.ne
  refine ⟨hu.heap h.hpb (by simp; omega), hu.heap h.hmb (by simp; omega), hu.heap h.hrb (by simp; omega), hu.heap h.hxb (by simp; omega), hu.heap h.hgs (by simp; omega), hu.heap h.hgb (by simp; omega), ?_, h.upd.trans' hu (fun i hi hl => by simp at hi; omega), h.ge, h.ne⟩
  rw [heap_setCell h.hdb, bcells_set]
/-- The height is noted. -/
theorem LookIn.most_ {w wr : World} {cv mv kv : Value} {m : Meth} {n xb gs gb db : Nat} {s : Lk} (h : LookIn w wr cv mv kv m n xb gs gb db s) (k : Nat) (v : Int) (hv : v = (k : Int)) :
    LookIn w (wr.setCell ⟨xb, 2, none⟩ (.int .i64 v)) cv mv kv m n xb gs gb db { s with most := k } := by
  subst hv
  have hu : Upd [xb] wr (wr.setCell ⟨xb, 2, none⟩ (.int .i64 (k : Int))) := (Upd.refl _ _).setCell (.inl (by simp)) _
  have hge := h.ge
  have hne := h.ne
  refine ⟨hu.heap h.hpb (by simp; omega), hu.heap h.hmb (by simp; omega), hu.heap h.hrb (by simp; omega), ?_, hu.heap h.hgs (by simp; omega), hu.heap h.hgb (by simp; omega), hu.heap h.hdb (by simp; omega), h.upd.trans' hu (fun i hi hl => by simp at hi; omega), h.ge, h.ne⟩
  rw [heap_setCell h.hxb]
  simp
/-- A place is seen. -/
theorem LookIn.see {w wr : World} {cv mv kv : Value} {m : Meth} {n xb gs gb db : Nat} {s : Lk} (h : LookIn w wr cv mv kv m n xb gs gb db s) (i : Nat) :
    LookIn w (wr.setCell ⟨gb, i, none⟩ (.bool true)) cv mv kv m n xb gs gb db { s with seen := s.seen.set i true } := by
  have hu : Upd [gb] wr (wr.setCell ⟨gb, i, none⟩ (.bool true)) := (Upd.refl _ _).setCell (.inl (by simp)) _
  have hge := h.ge
  have hne := h.ne
  refine ⟨hu.heap h.hpb (by simp; omega), hu.heap h.hmb (by simp; omega), hu.heap h.hrb (by simp; omega), hu.heap h.hxb (by simp; omega), hu.heap h.hgs (by simp; omega), ?_, hu.heap h.hdb (by simp; omega), h.upd.trans' hu (fun i hi hl => by simp at hi; omega), h.ge, h.ne⟩
  rw [heap_setCell h.hgb, bcells_set]
theorem LookIn.put {w wr : World} {cv mv kv : Value} {m : Meth} {n xb gs gb db : Nat} {s : Lk} (h : LookIn w wr cv mv kv m n xb gs gb db s) (i : Nat) (t : List UInt8) :
    LookIn w (wr.setCell ⟨gs, i, none⟩ (.string (bs t))) cv mv kv m n xb gs gb db { s with stk := s.stk.set i t } := by
  have hu : Upd [gs] wr (wr.setCell ⟨gs, i, none⟩ (.string (bs t))) := (Upd.refl _ _).setCell (.inl (by simp)) _
  have hge := h.ge
  have hne := h.ne
  refine ⟨hu.heap h.hpb (by simp; omega), hu.heap h.hmb (by simp; omega), hu.heap h.hrb (by simp; omega), hu.heap h.hxb (by simp; omega), ?_, hu.heap h.hgb (by simp; omega), hu.heap h.hdb (by simp; omega), h.upd.trans' hu (fun i hi hl => by simp at hi; omega), h.ge, h.ne⟩
  rw [heap_setCell h.hgs, scells_set]

theorem fold_next {f : Lk → Int → Except Int Lk} {nl : List Int} {q : Nat} {s1 sq s' : Lk} (h : (nl.take q).foldlM f s1 = .ok sq) (hq : q < nl.length) (h2 : f sq (nl.getD q 0) = .ok s') : (nl.take (q + 1)).foldlM f s1 = .ok s' := by
  rw [List.take_succ_eq_append_getElem hq, List.foldlM_append, h]
  rw [List.getD_eq_getElem?_getD, List.getElem?_eq_getElem hq] at h2
  show ([nl[q]].foldlM f sq) = _
  rw [List.foldlM_cons]
  show (f sq nl[q] >>= _) = _
  rw [show f sq nl[q] = .ok s' from h2]
  rfl
theorem fold_bad {f : Lk → Int → Except Int Lk} {nl : List Int} {q : Nat} {s1 sq : Lk} {e : Int} (h : (nl.take q).foldlM f s1 = .ok sq) (hq : q < nl.length) (h2 : f sq (nl.getD q 0) = .error e) : nl.foldlM f s1 = .error e := by
  rw [List.getD_eq_getElem?_getD, List.getElem?_eq_getElem hq] at h2
  have e1 : nl = nl.take q ++ nl[q] :: nl.drop (q + 1) := by rw [← List.drop_eq_getElem_cons hq, List.take_append_drop]
  rw [e1, List.foldlM_append, h]
  show ((nl[q] :: nl.drop (q + 1)).foldlM f sq) = _
  rw [List.foldlM_cons, show f sq nl[q] = .error e from h2]
  rfl
theorem ite_prop {α : Type} {c : Prop} [Decidable c] {a b : α} (P : α → Prop) (h1 : P a) (h2 : P b) : P (if c then a else b) := by
  split
  · exact h1
  · exact h2
theorem nextL_len (xs : List Ins) (pc : Int) : (nextL xs pc).length ≤ 2 := by
  unfold nextL
  repeat' (refine ite_prop (fun l : List Int => l.length ≤ 2) ?_ ?_)
  all_goals simp
/-- Of a program that may be: where an instruction leads is no place below 0. -/
theorem next_ge {p : Prg} (hok : p.Ok) (k : Nat) (hk : k < p.ms.length) (q : Nat) (hq : q < (p.ms.getD k default).code.length) : ∀ x ∈ nextL (p.ms.getD k default).code q, 0 ≤ x := by
  have h1 := hok.ins k hk q hq
  generalize p.ms.getD k default = m at *
  have hj : (m.code.getD q default).op = 22 ∨ (m.code.getD q default).op = 23 → 0 ≤ (m.code.getD q default).a := by
    intro hop
    revert h1
    unfold insCode
    refine ite_inv (fun h => by omega) (ite_inv (fun h => by omega) (ite_inv (fun h => by omega) (ite_inv (fun h => by omega) (ite_inv (fun h => by omega) ?_))))
    split
    · intro h; omega
    · rename_i h5; intro _; omega
  unfold nextL
  rw [Int.toNat_natCast]
  generalize m.code.getD q default = x at hj
  refine ite_prop (fun l : List Int => ∀ y ∈ l, 0 ≤ y) ?_ (by simp)
  by_cases h33 : x.op = 33
  · rw [if_pos h33]; simp
  rw [if_neg h33]
  by_cases h22 : x.op = 22
  · rw [if_pos h22]; intro y hy; simp at hy; subst hy; exact hj (.inl h22)
  rw [if_neg h22]
  by_cases h23 : x.op = 23
  · have := hj (.inr h23)
    rw [if_pos h23]
    repeat' (refine ite_prop (fun l : List Int => ∀ y ∈ l, 0 ≤ y) ?_ ?_)
    all_goals
      intro y hy
      simp at hy
      omega
  · rw [if_neg h23]; intro y hy; simp at hy; omega
theorem max_form (a b c : Nat) : (if (if a < b then (b : Int) else (a : Int)) < (c : Int) then (c : Int) else if a < b then (b : Int) else (a : Int)) = ((max a (max b c) : Nat) : Int) := by
  split <;> split <;> omega
end Go.Proofs.YtpmfbhoochogoaaGreatDoor
