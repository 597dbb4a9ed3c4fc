/- What verify.Of answers, in memory. -/
import Derived.Test.YtojobkhidlfeoaaDoorLookA
import Derived.Test.YtojobkhidlfeoaaDoorCopyV
namespace Go.Proofs.YtojobkhidlfeoaaDoor
open Go.RowKit

/-- A world without a block's cells. -/
def offW (w : World) (b : Nat) : World := { w with heap := w.heap.setIfInBounds b (.cells #[] 0) }
theorem offW_heap (w : World) (b k : Nat) (h : k ≠ b) : (offW w b).heap[k]? = w.heap[k]? := by
 show (w.heap.setIfInBounds b _)[k]? = _
 rw [Array.getElem?_setIfInBounds_ne (fun e => h e.symm)]
theorem offW_size (w : World) (b : Nat) : (offW w b).heap.size = w.heap.size := by simp [offW]
theorem offW_cell {w : World} {b : Nat} {p : Addr} {v : Value} (h : (offW w b).cell? p = some v) : p.block ≠ b ∧ w.cell? p = some v := by
 have hb : p.block ≠ b := by
  rintro rfl
  have hlt := World.block_lt_of_cell? _ p h
  rw [offW_size] at hlt
  have e : (offW w p.block).heap[p.block]? = some (.cells #[] 0) := by
   show (w.heap.setIfInBounds p.block _)[p.block]? = _
   rw [Array.getElem?_setIfInBounds_self_of_lt hlt]
  unfold World.cell? at h
  rw [e] at h
  simp at h
 exact ⟨hb, by rw [← h]; exact (World.cell?_of_block (offW_heap w b p.block hb)).symm⟩
theorem offW_upd {w w' : World} {b : Nat} (h : Upd [b] w w') : Upd [] (offW w b) (offW w' b) := by
 refine ⟨h.os, h.tape, h.output, by rw [offW_size, offW_size]; exact h.size, fun k hk _ => ?_⟩
 rw [offW_size] at hk
 by_cases e : k = b
 ·subst e
  have hk2 := Nat.lt_of_lt_of_le hk h.size
  show (w'.heap.setIfInBounds k _)[k]? = (w.heap.setIfInBounds k _)[k]?
  rw [Array.getElem?_setIfInBounds_self_of_lt hk, Array.getElem?_setIfInBounds_self_of_lt hk2]
 ·rw [offW_heap _ _ _ e, offW_heap _ _ _ e]
  exact h.block k hk (by simpa using e)
theorem offW_new {w w' : World} {b : Nat} (h : Upd [] w w') (hb : w.heap.size ≤ b) : Upd [] w (offW w' b) := by
 refine ⟨h.os, h.tape, h.output, by rw [offW_size]; exact h.size, fun k hk _ => ?_⟩
 rw [offW_heap _ _ _ (by omega)]
 exact h.block k hk (by simp)

/-- What is read in one world is read in another. -/
def Reads (w w' : World) : Prop := ∀ p v, w.cell? p = some v → w'.cell? p = some v
theorem offW_reads (w : World) (b : Nat) : Reads (offW w b) w := fun _ _ h => (offW_cell h).2
theorem InsAt.reads {w w' : World} {b o : Nat} {x : Ins} (h : InsAt w b o x) (hr : Reads w w') : InsAt w' b o x := ⟨hr _ _ h.1, hr _ _ h.2.1, hr _ _ h.2.2.1, hr _ _ h.2.2.2⟩
theorem CodeAt.reads {w w' : World} {v : Value} {xs : List Ins} (h : CodeAt w v xs) (hr : Reads w w') : CodeAt w' v xs := by
 obtain ⟨a, cap, h1, h2, h3, h4⟩ := h
 refine ⟨a, cap, h1, h2, h3, fun i hi => ?_⟩
 obtain ⟨b, o, h5, h6, h7⟩ := h4 i hi
 exact ⟨b, o, h5, h6, h7.reads hr⟩
theorem MethsAt.reads {w w' : World} {v : Value} {ms : List Meth} (h : MethsAt w v ms) (hr : Reads w w') : MethsAt w' v ms := by
 obtain ⟨a, cap, h1, h2, h3, h4⟩ := h
 refine ⟨a, cap, h1, h2, h3, fun i hi => ?_⟩
 obtain ⟨b, o, h5, h6, h7, h8, h9, u, h10, h11⟩ := h4 i hi
 exact ⟨b, o, h5, h6, hr _ _ h7, hr _ _ h8, hr _ _ h9, u, hr _ _ h10, h11.reads hr⟩
theorem ClassAt.reads {w w' : World} {v : Value} {cs : List ByteArray} (h : ClassAt w v cs) (hr : Reads w w') : ClassAt w' v cs := by
 obtain ⟨a, cap, h1, h0, h2, h3, h4⟩ := h
 refine ⟨a, cap, h1, h0, h2, h3, fun i hi => ?_⟩
 obtain ⟨b, o, h5, h6, h7⟩ := h4 i hi
 exact ⟨b, o, h5, h6, hr _ _ h7⟩

/-- A look's rows, by their cells. -/
def LkC (w : World) (gs gb n : Nat) (s : Lk) : Prop := ∀ q, q < n → w.cell? ⟨gs, q, none⟩ = some (.string (bs (s.stk.getD q []))) ∧ w.cell? ⟨gb, q, none⟩ = some (.bool (s.seen.getD q false))
/-- What is known of the methods. -/
def LksAt (w : World) (v : Value) (ms : List Meth) (ss : List Lk) : Prop :=
 ∃ a cap, v = .slice a ss.length cap ∧ cap ≤ maxLen ∧ ∀ i, i < ss.length → ∃ b o gs gb, a = some ⟨b, o, none⟩ ∧ w.cell? ⟨b, o + i * 3, none⟩ = some (.slice (some ⟨gs, 0, none⟩) (ms.getD i default).code.length (ms.getD i default).code.length) ∧
  w.cell? ⟨b, o + i * 3 + 1, none⟩ = some (.slice (some ⟨gb, 0, none⟩) (ms.getD i default).code.length (ms.getD i default).code.length) ∧ w.cell? ⟨b, o + i * 3 + 2, none⟩ = some (.int .i64 (ss.getD i default).most) ∧ LkC w gs gb (ms.getD i default).code.length (ss.getD i default)
theorem LksAt.upd {w w' : World} {v : Value} {ms : List Meth} {ss : List Lk} (h : LksAt w v ms ss) (hu : Upd [] w w') : LksAt w' v ms ss := by
 obtain ⟨a, cap, h1, h2, h3⟩ := h
 refine ⟨a, cap, h1, h2, fun i hi => ?_⟩
 obtain ⟨b, o, gs, gb, h4, h5, h6, h7, h8⟩ := h3 i hi
 exact ⟨b, o, gs, gb, h4, hu.cell h5 (by simp), hu.cell h6 (by simp), hu.cell h7 (by simp), fun q hq => ⟨hu.cell (h8 q hq).1 (by simp), hu.cell (h8 q hq).2 (by simp)⟩⟩
theorem LksAt.reads {w w' : World} {v : Value} {ms : List Meth} {ss : List Lk} (h : LksAt w v ms ss) (hr : Reads w w') : LksAt w' v ms ss := by
 obtain ⟨a, cap, h1, h2, h3⟩ := h
 refine ⟨a, cap, h1, h2, fun i hi => ?_⟩
 obtain ⟨b, o, gs, gb, h4, h5, h6, h7, h8⟩ := h3 i hi
 exact ⟨b, o, gs, gb, h4, hr _ _ h5, hr _ _ h6, hr _ _ h7, fun q hq => ⟨hr _ _ (h8 q hq).1, hr _ _ (h8 q hq).2⟩⟩

/-- What is known of a program. -/
def InfoAt (w : World) (ib : Nat) (p : Prg) (ss : List Lk) (asked : Int) : Prop :=
 ∃ cv mv lv, w.heap[ib]? = some (.cells #[cv, mv, lv, .int .i64 asked] 64) ∧ ClassAt (offW w ib) cv p.cs ∧ MethsAt (offW w ib) mv p.ms ∧ LksAt (offW w ib) lv p.ms ss
theorem InfoAt.upd {w w' : World} {ib : Nat} {p : Prg} {ss : List Lk} {n : Int} (h : InfoAt w ib p ss n) (hu : Upd [] w w') : InfoAt w' ib p ss n := by
 obtain ⟨cv, mv, lv, h1, h2, h3, h4⟩ := h
 have ho := offW_upd (hu.mono (T := [ib]) (by simp))
 exact ⟨cv, mv, lv, hu.heap h1 (by simp), h2.upd ho, h3.upd ho, h4.upd ho⟩
/-- A question is counted. -/
theorem InfoAt.ask {w : World} {ib : Nat} {p : Prg} {ss : List Lk} {n : Int} (h : InfoAt w ib p ss n) (k : Int) : InfoAt (w.setCell ⟨ib, 3, none⟩ (.int .i64 k)) ib p ss k := by
 obtain ⟨cv, mv, lv, h1, h2, h3, h4⟩ := h
 have ho := offW_upd ((Upd.refl [ib] w).setCell (p := ⟨ib, 3, none⟩) (.inl (by simp)) (.int .i64 k))
 refine ⟨cv, mv, lv, ?_, h2.upd ho, h3.upd ho, h4.upd ho⟩
 rw [heap_setCell h1]
 simp

/-- The cells of looks. -/
def lcell (n gs gb : Nat) (s : Lk) : List Value := [.slice (some ⟨gs, 0, none⟩) n n, .slice (some ⟨gb, 0, none⟩) n n, .int .i64 s.most]
def lcells : List Meth → List Lk → List (Nat × Nat) → List Value
 | m :: ms, s :: ss, g :: gg => lcell m.code.length g.1 g.2 s ++ lcells ms ss gg
 | _, _, _ => []
theorem lcells_len : ∀ (ms : List Meth) (ss : List Lk) (gg : List (Nat × Nat)), ss.length = ms.length → gg.length = ms.length → (lcells ms ss gg).length = ms.length * 3
 | [], [], [], _, _ => rfl
 | m :: ms, s :: ss, g :: gg, h, h2 => by
  simp only [lcells, List.length_append, List.length_cons, lcells_len ms ss gg (by simpa using h) (by simpa using h2), lcell, List.length_nil]
  omega
theorem lcells_snoc : ∀ (ms : List Meth) (ss : List Lk) (gg : List (Nat × Nat)) (m : Meth) (s : Lk) (g : Nat × Nat), ss.length = ms.length → gg.length = ms.length → lcells (ms ++ [m]) (ss ++ [s]) (gg ++ [g]) = lcells ms ss gg ++ lcell m.code.length g.1 g.2 s
 | [], [], [], m, s, g, _, _ => by simp [lcells]
 | a :: ms, b :: ss, c :: gg, m, s, g, h, h2 => by
  simp only [lcells, List.cons_append]
  rw [lcells_snoc ms ss gg m s g (by simpa using h) (by simpa using h2), List.append_assoc]
theorem lcells_get : ∀ (ms : List Meth) (ss : List Lk) (gg : List (Nat × Nat)) (i : Nat), ss.length = ms.length → gg.length = ms.length → i < ms.length →
  (lcells ms ss gg)[i * 3]? = some (.slice (some ⟨(gg.getD i default).1, 0, none⟩) (ms.getD i default).code.length (ms.getD i default).code.length) ∧ (lcells ms ss gg)[i * 3 + 1]? = some (.slice (some ⟨(gg.getD i default).2, 0, none⟩) (ms.getD i default).code.length (ms.getD i default).code.length) ∧ (lcells ms ss gg)[i * 3 + 2]? = some (.int .i64 (ss.getD i default).most)
 | [], _, _, i, _, _, h => by simp at h
 | m :: ms, s :: ss, g :: gg, 0, _, _, _ => ⟨rfl, rfl, rfl⟩
 | m :: ms, s :: ss, g :: gg, i + 1, h, h2, h3 => by
  have ih := lcells_get ms ss gg i (by simpa using h) (by simpa using h2) (by simpa using h3)
  have e : (i + 1) * 3 = i * 3 + 3 := by omega
  rw [e]
  exact ih
theorem lcells_one : ∀ (ms : List Meth) (ss : List Lk) (gg : List (Nat × Nat)), ∀ u ∈ lcells ms ss gg, u.oneCell' = true
 | m :: ms, s :: ss, g :: gg, u, h => by
  simp only [lcells, List.mem_append, lcell, List.mem_cons, List.not_mem_nil, or_false] at h
  rcases h with (rfl | rfl | rfl) | h
  ·rfl
  ·rfl
  ·rfl
  ·exact lcells_one ms ss gg u h
 | [], _, _, u, h => by simp [lcells] at h
 | _ :: _, [], _, u, h => by simp [lcells] at h
 | _ :: _, _ :: _, [], u, h => by simp [lcells] at h

/-- Looks of one's own. -/
structure OwnS (w : World) (B : Nat) (v : Value) (ms : List Meth) (ss : List Lk) (gg : List (Nat × Nat)) : Prop where
 row : w.ownsRow B 68 3 v ms.length (lcells ms ss gg)
 len : ss.length = ms.length
 len2 : gg.length = ms.length
 rows : ∀ i, i < ms.length → LkAt w (gg.getD i default).1 (gg.getD i default).2 (ss.getD i default)
theorem OwnS.nil (w : World) (B : Nat) : OwnS w B (.slice none 0 0) [] [] [] := ⟨⟨by simp [lcells], .inl ⟨rfl, rfl⟩⟩, rfl, rfl, by simp⟩
theorem OwnS.blk {w : World} {B : Nat} {v : Value} {ms : List Meth} {ss : List Lk} {gg : List (Nat × Nat)} (h : OwnS w B v ms ss gg) (k : Nat) (hk : v.ownBlock = some k) : B ≤ k ∧ k < w.heap.size ∧ ∃ cur : Array Value, w.heap[k]? = some (.cells cur 68) := by
 rcases h.row.2 with ⟨h1, h2⟩ | ⟨g, c, cur, h1, h3, h4, _⟩
 ·rw [h1] at hk; simp [Value.ownBlock] at hk
 ·rw [h1] at hk
  simp only [Value.ownBlock, Option.some.injEq] at hk
  subst hk
  exact ⟨h3, lt_of_heap h4, cur, h4⟩
theorem OwnS.shape {w : World} {B : Nat} {v : Value} {ms : List Meth} {ss : List Lk} {gg : List (Nat × Nat)} (h : OwnS w B v ms ss gg) : ∃ p c, v = .slice p ms.length c := by
 rcases h.row.2 with ⟨h1, h2⟩ | ⟨g, c, cur, h1, _⟩
 ·exact ⟨none, 0, by rw [h1, h2]⟩
 ·exact ⟨_, c, h1⟩
theorem OwnS.updT {w w' : World} {B : Nat} {v : Value} {ms : List Meth} {ss : List Lk} {gg : List (Nat × Nat)} {T : List Nat} (h : OwnS w B v ms ss gg) (hu : Upd T w w') (h1 : ∀ q, v.ownBlock = some q → q ∉ T) (h2 : ∀ i, i < ms.length → (gg.getD i default).1 ∉ T ∧ (gg.getD i default).2 ∉ T) : OwnS w' B v ms ss gg :=
 ⟨row_upd h.row hu h1, h.len, h.len2, fun i hi => (h.rows i hi).upd hu (h2 i hi).1 (h2 i hi).2⟩
theorem getD_snoc_lt {α : Type} (l : List α) (x d : α) (i : Nat) (h : i < l.length) : (l ++ [x]).getD i d = l.getD i d := by
 rw [List.getD_eq_getElem?_getD, List.getD_eq_getElem?_getD, List.getElem?_append_left h]
theorem getD_snoc_eq {α : Type} (l : List α) (x d : α) : (l ++ [x]).getD l.length d = x := by simp [List.getD_eq_getElem?_getD]
theorem OwnS.push {w w' : World} {B : Nat} {v v' : Value} {ms : List Meth} {ss : List Lk} {gg : List (Nat × Nat)} {m : Meth} {s : Lk} {gs gb : Nat} {o : Obj} (h : OwnS w B v ms ss gg) (hs : LkAt w gs gb s)
  (hown : w'.ownsRow B 68 3 v' (ms.length + 1) (lcells ms ss gg ++ lcell m.code.length gs gb s)) (hgr : (w.alloc o).grownBy w' v.ownBlock) :
  OwnS w' B v' (ms ++ [m]) (ss ++ [s]) (gg ++ [(gs, gb)]) := by
 have hlen := h.len
 have hlen2 := h.len2
 have hu : Upd v.ownBlock.toList w w' := ((Upd.refl _ w).alloc o).grown hgr (fun q hq => Or.inl (Option.mem_toList.2 hq))
 have off : ∀ a b s', LkAt w a b s' → a ∉ v.ownBlock.toList ∧ b ∉ v.ownBlock.toList := fun a b s' h2 => by
  refine ⟨fun hm => ?_, fun hm => ?_⟩
  ·exact own_heap_ne h.row h2.stk (by decide) (Option.mem_toList.1 hm)
  ·exact own_heap_ne h.row h2.seen (by decide) (Option.mem_toList.1 hm)
 refine ⟨by rw [lcells_snoc _ _ _ _ _ _ hlen hlen2]; simpa using hown, by simp [hlen], by simp [hlen2], fun i hi => ?_⟩
 by_cases e : i < ms.length
 ·rw [getD_snoc_lt _ _ _ _ (by omega), getD_snoc_lt _ _ _ _ (by omega)]
  have h2 := h.rows i e
  exact h2.upd hu (off _ _ _ h2).1 (off _ _ _ h2).2
 ·have hi2 : i = ms.length := by simp at hi; omega
  subst hi2
  have e1 : (gg ++ [(gs, gb)]).getD ms.length default = (gs, gb) := by rw [← hlen2]; exact getD_snoc_eq _ _ _
  have e2 : (ss ++ [s]).getD ms.length default = s := by rw [← hlen]; exact getD_snoc_eq _ _ _
  rw [e1, e2]
  exact hs.upd hu (off _ _ _ hs).1 (off _ _ _ hs).2
theorem LkAt.cells {w : World} {gs gb n : Nat} {s : Lk} (h : LkAt w gs gb s) (h1 : s.stk.length = n) (h2 : s.seen.length = n) : LkC w gs gb n s := fun q hq =>
 ⟨by rw [cell_of h.stk, scells_get _ _ (by omega)], by rw [cell_of h.seen, bcells_get _ _ (by omega)]⟩
theorem OwnS.looks {w : World} {B : Nat} {v : Value} {ms : List Meth} {ss : List Lk} {gg : List (Nat × Nat)} (h : OwnS w B v ms ss gg) (hn : ∀ i, i < ms.length → (ss.getD i default).stk.length = (ms.getD i default).code.length ∧ (ss.getD i default).seen.length = (ms.getD i default).code.length) : LksAt w v ms ss := by
 rcases h.row.2 with ⟨h1, h2⟩ | ⟨g, c, cur, h1, h3, h4, h5, h6, h7, h8⟩
 ·have e : ss = [] := List.eq_nil_of_length_eq_zero (by rw [h.len]; exact h2)
  subst e
  exact ⟨none, 0, h1, by unfold maxLen; omega, by simp⟩
 ·rw [← h.len] at h1
  refine ⟨_, c, h1, h6, fun i hi => ?_⟩
  have hi2 : i < ms.length := by rw [← h.len]; exact hi
  obtain ⟨g0, g1, g2⟩ := lcells_get ms ss gg i h.len h.len2 hi2
  have cell : ∀ j u, (lcells ms ss gg)[j]? = some u → w.cell? ⟨g, 0 + j, none⟩ = some u := fun j u hj => by
   have := h.row.cells (g := g) (by rw [h1]; rfl) j u hj
   rwa [Addr.add_lit] at this
  exact ⟨g, 0, _, _, rfl, cell _ _ g0, cell _ _ g1, cell _ _ g2, (h.rows i hi2).cells (hn i hi2).1 (hn i hi2).2⟩
end Go.Proofs.YtojobkhidlfeoaaDoor
