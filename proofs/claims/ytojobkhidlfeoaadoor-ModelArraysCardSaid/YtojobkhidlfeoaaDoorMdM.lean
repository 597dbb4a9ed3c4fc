/- Rows of values in memory: read, owned, kept apart; a value laid behind a cut row. A machine in memory: its box, its frames, its objects; what is kept where its blocks are written. A machine in memory: its box, a frame, an object, what was put out are turned. A machine in memory: an object more, an output more. -/
import Derived.Test.YtojobkhidlfeoaaDoorMdS
import Derived.Test.YtojobkhidlfeoaaDoorOwnI
import Derived.Test.YtojobkhidlfeoaaDoorOwnNe
import Derived.Test.YtojobkhidlfeoaaDoorInfoA
import Derived.ArgAppend
import Derived.Test.YtojobkhidlfeoaaDoorRows
/-! Rows of values in memory: read, owned, kept apart; a value laid behind a cut row. -/
namespace Go.Proofs.YtojobkhidlfeoaaDoor
open Go.RowKit

def vcells : List Vl → List Value
 | x :: xs => .bool x.ref :: .int .i64 x.n :: vcells xs
 | [] => []
theorem vcells_len : ∀ xs : List Vl, (vcells xs).length = xs.length * 2
 | [] => rfl
 | x :: xs => by
  simp only [vcells, List.length_cons, vcells_len xs]
  omega
theorem vcells_app : ∀ xs ys : List Vl, vcells (xs ++ ys) = vcells xs ++ vcells ys
 | [], _ => rfl
 | x :: xs, ys => by
  simp only [vcells, List.cons_append]
  rw [vcells_app xs ys]
theorem vcells_get : ∀ (xs : List Vl) (i : Nat), i < xs.length → (vcells xs)[i * 2]? = some (.bool (xs.getD i default).ref) ∧ (vcells xs)[i * 2 + 1]? = some (.int .i64 (xs.getD i default).n)
 | [], i, h => by simp at h
 | x :: xs, 0, _ => ⟨rfl, rfl⟩
 | x :: xs, i + 1, h => by
  have ih := vcells_get xs i (by simpa using h)
  have e : (i + 1) * 2 = i * 2 + 2 := by omega
  rw [e]
  exact ih
theorem vcells_one : ∀ (xs : List Vl), ∀ u ∈ vcells xs, u.oneCell' = true
 | x :: xs, u, h => by
  simp only [vcells, List.mem_cons] at h
  rcases h with rfl | rfl | h
  ·rfl
  ·rfl
  ·exact vcells_one xs u h
 | [], u, h => by cases h
theorem vcells_set : ∀ (xs : List Vl) (i : Nat) (v : Vl), i < xs.length → ((vcells xs).set (i * 2) (.bool v.ref)).set (i * 2 + 1) (.int .i64 v.n) = vcells (xs.set i v)
 | [], i, _, h => by simp at h
 | x :: xs, 0, v, _ => rfl
 | x :: xs, i + 1, v, h => by
  have ih := vcells_set xs i v (by simpa using h)
  have e : (i + 1) * 2 = i * 2 + 2 := by omega
  rw [e]
  simp only [vcells, List.set_cons_succ]
  rw [ih]
/-- A row of values of one's own. -/
def OwnV (t : TypeId) (w : World) (B : Nat) (v : Value) (xs : List Vl) : Prop := w.ownsRow B t 2 v xs.length (vcells xs)
theorem OwnV.nil (t : TypeId) (w : World) (B : Nat) : OwnV t w B (.slice none 0 0) [] := World.ownsRow_nil _ _ _ _
theorem OwnV.shape {t : TypeId} {w : World} {B : Nat} {v : Value} {xs : List Vl} (h : OwnV t w B v xs) : ∃ p c, v = .slice p xs.length c := by
 rcases h.2 with ⟨h1, h2⟩ | ⟨g, c, cur, h1, _⟩
 ·exact ⟨none, 0, by rw [h1, h2]⟩
 ·exact ⟨_, c, h1⟩
theorem OwnV.upd {t : TypeId} {w w' : World} {B : Nat} {v : Value} {xs : List Vl} {T : List Nat} (h : OwnV t w B v xs) (hu : Upd T w w') (hT : ∀ k, v.ownBlock = some k → k ∉ T) : OwnV t w' B v xs := row_upd h hu hT
/-- .. its cells. -/
theorem OwnV.cell {t : TypeId} {w : World} {B : Nat} {v : Value} {xs : List Vl} (h : OwnV t w B v xs) {i : Nat} (hi : i < xs.length) : ∃ g c, v = .slice (some ⟨g, 0, none⟩) xs.length c ∧ w.cell? ⟨g, i * 2, none⟩ = some (.bool (xs.getD i default).ref) ∧ w.cell? ⟨g, i * 2 + 1, none⟩ = some (.int .i64 (xs.getD i default).n) ∧ w.frozen? ⟨g, i * 2, none⟩ = false ∧ w.frozen? ⟨g, i * 2 + 1, none⟩ = false := by
 rcases h.2 with ⟨h1, h2⟩ | ⟨g, c, cur, h1, _, h3, _⟩
 ·omega
 ·obtain ⟨g0, g1⟩ := vcells_get xs i hi
  have cell : ∀ j u, (vcells xs)[j]? = some u → w.cell? ⟨g, j, none⟩ = some u := fun j u hj => by
   have := World.ownsRow.cells h (g := g) (by rw [h1]; rfl) j u hj
   rwa [Addr.add_lit, Nat.zero_add] at this
  exact ⟨g, c, h1, cell _ _ g0, cell _ _ g1, froz_of h3 _, froz_of h3 _⟩
/-- .. a value of it is stored. -/
theorem OwnV.put {t : TypeId} {w : World} {B g c : Nat} {xs : List Vl} (h : OwnV t w B (.slice (some ⟨g, 0, none⟩) xs.length c) xs) {i : Nat} (hi : i < xs.length) (v : Vl) :
  OwnV t ((w.setCell ⟨g, i * 2, none⟩ (.bool v.ref)).setCell ⟨g, i * 2 + 1, none⟩ (.int .i64 v.n)) B (.slice (some ⟨g, 0, none⟩) (xs.set i v).length c) (xs.set i v) := by
 obtain ⟨h0, h1⟩ := h
 refine ⟨by rw [vcells_len], ?_⟩
 rcases h1 with ⟨h1, _⟩ | ⟨g1, c1, cur, h1, h2, h3, h4, h5, h6, h7⟩
 ·cases h1
 ·injection h1 with e1 _ e3
  injection e1 with e1
  injection e1 with e1
  subst e1 e3
  refine .inr ⟨g, c, (cur.setIfInBounds (i * 2) (.bool v.ref)).setIfInBounds (i * 2 + 1) (.int .i64 v.n), rfl, h2, heap_setCell (heap_setCell h3 _ _) _ _, by simpa using h4, h5, by simpa using h6, ?_⟩
  rw [Array.toList_setIfInBounds, Array.toList_setIfInBounds, List.take_set, List.take_set, List.length_set, h7, vcells_set xs i v hi]

/-- A slice value that reads as these values, which lie in block b from o on. -/
def VlV (w : World) (v : Value) (b o : Nat) (xs : List Vl) : Prop :=
 (∃ p c, v = .slice p xs.length c ∧ (xs ≠ [] → p = some ⟨b, o, none⟩)) ∧ ∀ i, i < xs.length → w.cell? ⟨b, o + i * 2, none⟩ = some (.bool (xs.getD i default).ref) ∧ w.cell? ⟨b, o + i * 2 + 1, none⟩ = some (.int .i64 (xs.getD i default).n)
theorem VlV.upd {w w' : World} {v : Value} {b o : Nat} {xs : List Vl} {T : List Nat} (h : VlV w v b o xs) (hu : Upd T w w') (hT : xs = [] ∨ b ∉ T) : VlV w' v b o xs := by
 refine ⟨h.1, fun i hi => ?_⟩
 rcases hT with rfl | hT
 ·simp at hi
 ·exact ⟨hu.cell (h.2 i hi).1 hT, hu.cell (h.2 i hi).2 hT⟩
theorem OwnV.read {t : TypeId} {w : World} {B : Nat} {v : Value} {xs : List Vl} (h : OwnV t w B v xs) : ∃ b, VlV w v b 0 xs ∧ (xs = [] ∨ v.ownBlock = some b) := by
 rcases h.2 with ⟨h1, h2⟩ | ⟨g, c, cur, h1, h2, h3, _⟩
 ·have e : xs = [] := List.eq_nil_of_length_eq_zero h2
  subst e
  exact ⟨0, ⟨⟨none, 0, h1, fun h => absurd rfl h⟩, by simp⟩, .inl rfl⟩
 ·refine ⟨g, ⟨⟨_, c, h1, fun _ => rfl⟩, fun i hi => ?_⟩, .inr (by rw [h1]; rfl)⟩
  obtain ⟨g', c', h4, h5, h6, _⟩ := h.cell hi
  rw [h1] at h4
  injection h4 with e1
  injection e1 with e1
  injection e1 with e1
  subst e1
  rw [Nat.zero_add]
  exact ⟨h5, h6⟩
/-- The cells in a row. -/
theorem VlV.cells {w : World} {v : Value} {b o : Nat} {xs : List Vl} (h : VlV w v b o xs) (j : Nat) (u : Value) (hj : (vcells xs)[j]? = some u) : w.cell? ⟨b, o + j, none⟩ = some u := by
 have hlt : j < (vcells xs).length := (List.getElem?_eq_some_iff.1 hj).1
 rw [vcells_len] at hlt
 have hi : j / 2 < xs.length := by omega
 obtain ⟨g0, g1⟩ := vcells_get xs (j / 2) hi
 obtain ⟨c0, c1⟩ := h.2 (j / 2) hi
 rcases Nat.mod_two_eq_zero_or_one j with e | e
 ·have ej : j = j / 2 * 2 := by omega
  rw [ej, g0] at hj
  rw [ej, c0]
  exact hj
 ·have ej : j = j / 2 * 2 + 1 := by omega
  rw [ej, g1] at hj
  rw [ej, ← Nat.add_assoc, c1]
  exact hj
/-- A row that can be read is a source for append. -/
theorem VlV.src {w : World} {v : Value} {b o : Nat} {xs : List Vl} (h : VlV w v b o xs) : SrcV w v xs.length (vcells xs) := by
 obtain ⟨⟨p, c, rfl, hp⟩, _⟩ := id h
 cases xs with
 | nil =>
  cases p with
  | none => exact .inl ⟨c, rfl, rfl, rfl⟩
  | some a => exact .inr ⟨a, c, rfl, fun j u hj => by simp [vcells] at hj⟩
 | cons x xs =>
  have e := hp (by simp)
  subst e
  exact .inr ⟨_, c, rfl, fun j u hj => by rw [Addr.add_lit]; exact h.cells j u hj⟩
/-- A row's first values. -/
theorem VlV.take {w : World} {p : Option Addr} {n c b o : Nat} {xs : List Vl} (h : VlV w (.slice p n c) b o xs) (k c' : Nat) : VlV w (.slice p (xs.take k).length c') b o (xs.take k) := by
 obtain ⟨⟨p', c1, e, hp⟩, hc⟩ := h
 injection e with e1 e2 e3
 subst e1
 refine ⟨⟨p, c', rfl, fun hne => hp fun e => hne (by rw [e]; simp)⟩, fun i hi => ?_⟩
 rw [List.length_take] at hi
 have e : (xs.take k).getD i default = xs.getD i default := by
  rw [List.getD_eq_getElem?_getD, List.getElem?_take, if_pos (by omega), List.getD_eq_getElem?_getD]
 rw [e]
 exact hc i (by omega)

/-- Rows of values, each of one's own, in blocks of their own. -/
def blks (vs : List Value) : List Nat := vs.filterMap Value.ownBlock
structure Rows (t : TypeId) (w : World) (B : Nat) (vs : List Value) (xss : List (List Vl)) : Prop where
 len : vs.length = xss.length
 row : ∀ i, i < xss.length → OwnV t w B (vs.getD i default) (xss.getD i [])
 nd : (blks vs).Nodup
theorem mem_blks {vs : List Value} {i b : Nat} (hi : i < vs.length) (h : (vs.getD i default).ownBlock = some b) : b ∈ blks vs := by
 unfold blks
 rw [List.mem_filterMap]
 exact ⟨_, getD_mem hi, h⟩
theorem blks_ne : ∀ {vs : List Value}, (blks vs).Nodup → ∀ {i j b : Nat}, i < vs.length → j < vs.length → i ≠ j → (vs.getD i default).ownBlock = some b → (vs.getD j default).ownBlock ≠ some b
 | [], _, i, j, b, hi, _, _, _ => by simp at hi
 | v :: vs, h, i, j, b, hi, hj, hij, hb => by
  have ht : (blks vs).Nodup := by
   unfold blks at *
   rw [List.filterMap_cons] at h
   split at h
   ·exact h
   ·exact (List.nodup_cons.1 h).2
  intro hb2
  match i, j with
  | 0, 0 => exact hij rfl
  | 0, j + 1 =>
   have h1 : v.ownBlock = some b := hb
   unfold blks at h
   rw [List.filterMap_cons, h1] at h
   exact (List.nodup_cons.1 h).1 (mem_blks (i := j) (by simpa using hj) hb2)
  | i + 1, 0 =>
   have h1 : v.ownBlock = some b := hb2
   unfold blks at h
   rw [List.filterMap_cons, h1] at h
   exact (List.nodup_cons.1 h).1 (mem_blks (i := i) (by simpa using hi) hb)
  | i + 1, j + 1 => exact blks_ne ht (i := i) (j := j) (by simpa using hi) (by simpa using hj) (by omega) hb hb2
theorem Rows.upd {t : TypeId} {w w' : World} {B : Nat} {vs : List Value} {xss : List (List Vl)} {T : List Nat} (h : Rows t w B vs xss) (hu : Upd T w w') (hT : ∀ b ∈ blks vs, b ∉ T) : Rows t w' B vs xss :=
 ⟨h.len, fun i hi => (h.row i hi).upd hu (fun k hk => hT k (mem_blks (by rw [h.len]; exact hi) hk)), h.nd⟩
theorem Rows.nil (t : TypeId) (w : World) (B : Nat) : Rows t w B [] [] := ⟨rfl, by simp, by simp [blks]⟩
theorem Rows.lt {t : TypeId} {w : World} {B : Nat} {vs : List Value} {xss : List (List Vl)} (h : Rows t w B vs xss) : ∀ b ∈ blks vs, B ≤ b ∧ b < w.heap.size := by
 intro b hb
 unfold blks at hb
 rw [List.mem_filterMap] at hb
 obtain ⟨v, hv, hb⟩ := hb
 obtain ⟨i, hi, rfl⟩ := List.getElem_of_mem hv
 have := (h.row i (by rw [← h.len]; exact hi)).2
 rw [List.getD_eq_getElem?_getD, List.getElem?_eq_getElem hi, Option.getD_some] at this
 rcases this with ⟨h1, _⟩ | ⟨g, c, cur, h1, h2, h3, _⟩
 ·rw [h1] at hb; cases hb
 ·rw [h1] at hb
  simp only [Value.ownBlock, Option.some.injEq] at hb
  subst hb
  exact ⟨h2, lt_of_heap h3⟩
theorem Rows.cons {t : TypeId} {w : World} {B : Nat} {vs : List Value} {xss : List (List Vl)} {v : Value} {xs : List Vl} (h : Rows t w B vs xss) (hv : OwnV t w B v xs) (hb : ∀ b, v.ownBlock = some b → b ∉ blks vs) : Rows t w B (v :: vs) (xs :: xss) := by
 refine ⟨by simp [h.len], fun i hi => ?_, ?_⟩
 ·match i with
  | 0 => exact hv
  | i + 1 => exact h.row i (by simpa using hi)
 ·unfold blks
  rw [List.filterMap_cons]
  split
  ·exact h.nd
  ·rename_i b e
   exact List.nodup_cons.2 ⟨hb b e, h.nd⟩
theorem Rows.tail {t : TypeId} {w : World} {B : Nat} {vs : List Value} {xss : List (List Vl)} {v : Value} {xs : List Vl} (h : Rows t w B (v :: vs) (xs :: xss)) : Rows t w B vs xss := by
 refine ⟨by simpa using h.len, fun i hi => h.row (i + 1) (by simpa using hi), ?_⟩
 have := h.nd
 unfold blks at *
 rw [List.filterMap_cons] at this
 split at this
 ·exact this
 ·exact (List.nodup_cons.1 this).2
theorem blks_snoc (vs : List Value) (v : Value) : blks (vs ++ [v]) = blks vs ++ v.ownBlock.toList := by
 unfold blks
 rw [List.filterMap_append]
 cases h : v.ownBlock <;> simp [h]
theorem Rows.snoc {t : TypeId} {w : World} {B : Nat} {vs : List Value} {xss : List (List Vl)} {v : Value} {xs : List Vl} (h : Rows t w B vs xss) (hv : OwnV t w B v xs) (hb : ∀ b, v.ownBlock = some b → b ∉ blks vs) : Rows t w B (vs ++ [v]) (xss ++ [xs]) := by
 refine ⟨by simp [h.len], fun i hi => ?_, ?_⟩
 ·by_cases e : i < xss.length
  ·rw [getD_snoc_lt _ _ _ _ (by rw [h.len]; exact e), getD_snoc_lt _ _ _ _ e]
   exact h.row i e
  ·have e2 : i = xss.length := by simp at hi; omega
   subst e2
   rw [getD_snoc_eq, ← h.len, getD_snoc_eq]
   exact hv
 ·rw [blks_snoc]
  cases hv2 : v.ownBlock with
  | none => simpa using h.nd
  | some b =>
   rw [List.nodup_append]
   exact ⟨h.nd, by simp, fun x hx y hy e => hb b hv2 (by simp at hy; rw [← hy, ← e]; exact hx)⟩
/-- One of the rows is turned. -/
theorem Rows.set {t : TypeId} {w w' : World} {B : Nat} {vs : List Value} {xss : List (List Vl)} (h : Rows t w B vs xss) {i b : Nat} (hi : i < xss.length) (hb : (vs.getD i default).ownBlock = some b) {xs : List Vl} (hu : Upd [b] w w') (hv : OwnV t w' B (vs.getD i default) xs) : Rows t w' B vs (xss.set i xs) := by
 refine ⟨by simp [h.len], fun j hj => ?_, h.nd⟩
 have hj2 : j < xss.length := by simpa using hj
 by_cases e : j = i
 ·subst e
  rw [show (xss.set j xs).getD j [] = xs by simp [List.getD_eq_getElem?_getD, hj2]]
  exact hv
 ·rw [show (xss.set i xs).getD j [] = xss.getD j [] by
   rw [List.getD_eq_getElem?_getD, List.getElem?_set, if_neg (fun h => e h.symm), List.getD_eq_getElem?_getD]]
  refine (h.row j hj2).upd hu (fun k hk hm => ?_)
  rw [List.mem_singleton] at hm
  subst hm
  exact blks_ne h.nd (by rw [h.len]; exact hj2) (by rw [h.len]; exact hi) e hk hb

/-- A row laid behind a row that is cut: the same value where nothing is laid, a new row else. -/
theorem run_append_cut {P : Program} (w : World) (t ty e : TypeId) (i : TypeInfo) (z : Value) (size bytes : Nat) (ht : P.underlying t = some (.slice e)) (hi : P.info? e = some i) (hz : i.zero = some z)
  (hsize : i.size = size) (hby : i.bytes = bytes) (hzs : z.cells.size = size) (hsz : 0 < size)
  (ao : Option Addr) (n : Nat) (olds : List Value) (hnone : ao = none → n = 0) (hlo : olds.length = n * size) (holds : ∀ b, ao = some b → ∀ j u, olds[j]? = some u → w.cell? (b.add j) = some u)
  (x : Value) (m : Nat) (news : List Value) (hx : SrcV w x m news) (hl : news.length = m * size) (h1 : ∀ u ∈ news, u.oneCell' = true)
  (h63 : n + m ≤ maxLen) (hbytes : (n + m) * bytes ≤ 140737488355328) :
  ∃ v' w', (Builtin.append_ #[t, t] ty #[.slice ao n n, x]).run P w = .ok v' w' ∧ ((m = 0 ∧ v' = .slice ao n n ∧ w' = w) ∨ (0 < m ∧ w'.ownsRow w.heap.size e size v' (n + m) (olds ++ news) ∧ w.grownBy w' none)) := by
 by_cases hm : m = 0
 ·subst hm
  refine ⟨.slice ao n n, w, ?_, .inl ⟨rfl, rfl, rfl⟩⟩
  rcases hx with ⟨c, rfl, _, rfl⟩ | ⟨ad, c, rfl, _⟩
  ·cases ao with
   | none =>
    obtain rfl := hnone rfl
    simp [Builtin.append_, run_underlying ht, sizeOf, typeInfo, hi, Builtin.lenOf, Builtin.firstCells]
   | some b => simp [Builtin.append_, run_underlying ht, sizeOf, typeInfo, hi, Builtin.lenOf, Builtin.firstCells, storeCells]
  ·have hfc := run_firstCells_some (P := P) w i.size 0 ad 0 c [] (by simp) (by simp)
   cases ao with
   | none =>
    obtain rfl := hnone rfl
    simp [Builtin.append_, run_underlying ht, sizeOf, typeInfo, hi, Builtin.lenOf, hfc]
   | some b => simp [Builtin.append_, run_underlying ht, sizeOf, typeInfo, hi, Builtin.lenOf, hfc, storeCells]
 ·rcases hx with ⟨c, rfl, h0, rfl⟩ | ⟨ad, c, rfl, hc⟩
  ·exact absurd h0 hm
  ·cases ao with
   | some b =>
    obtain ⟨v', w', hr, r1, r2⟩ := run_append_arg_grows (P := P) w t ty e i z size bytes ht hi hz hsize hby hzs hsz b n n olds hlo (holds b rfl) ad m c news hl hc (by omega) h63 hbytes
    exact ⟨v', w', hr, .inr ⟨by omega, r1, r2⟩⟩
   | none =>
    obtain rfl := hnone rfl
    obtain rfl : olds = [] := List.eq_nil_of_length_eq_zero (by simpa using hlo)
    obtain ⟨v', w', hr, r1, r2, _⟩ := run_append_own (P := P) w w.heap.size t ty e i z size bytes ht hi hz hsize hby hzs hsz (.slice none 0 0) 0 [] (World.ownsRow_nil w _ e size) ad m c news hl hc h1 h63 hbytes (Nat.le_refl _)
    exact ⟨v', w', hr, .inr ⟨by omega, r1, r2⟩⟩
/-- Nothing is laid behind a cut row, as a step of a region that draws. -/
theorem step_append_none {P : Program} {ops : Array Oper} {o : Oper} {a : Act} {w : World} {K : Act → World → Prop} {Q : Exit → Act → World → Prop} {E : Prop}
  (hg : o.guard = none) (s x : Operand) (t : TypeId) (hop : o.op = Op.call { callee := Callee.builtin Builtin.append, args := #[s, x], argTypes := #[t, t] })
  (e : TypeId) (i : TypeInfo) (ht : P.underlying t = some (.slice e)) (hi : P.info? e = some i)
  (ao : Option Addr) (n : Nat) (hs : a.eval s = .slice ao n n) (hnone : ao = none → n = 0) (hx : a.eval x = .slice none 0 0)
  (hK : K (a.put o.dst (.slice ao n n)) w) :
  if Region.wanted o (yielded ops a.tmps) = true then Oper.wp P o a w K Q else E := by
 have hw : Region.wanted o (yielded ops a.tmps) = true := by simp [Region.wanted, hg]
 rw [if_pos hw]
 have hr : (Builtin.append_ #[t, t] o.type #[.slice ao n n, .slice none 0 0]).run P w = .ok (.slice ao n n) w := by
  cases ao with
  | none =>
   obtain rfl := hnone rfl
   simp [Builtin.append_, run_underlying ht, sizeOf, typeInfo, hi, Builtin.lenOf, Builtin.firstCells]
  | some b => simp [Builtin.append_, run_underlying ht, sizeOf, typeInfo, hi, Builtin.lenOf, Builtin.firstCells, storeCells]
 unfold Oper.wp
 simp [execOp, hop, resolve, invoke, builtin, hs, hx, hr, Result.andThen]
 exact hK
/-- A row laid behind a cut row, as a step of a region that draws. -/
theorem step_append_cut {P : Program} {ops : Array Oper} {o : Oper} {a : Act} {w : World} {K : Act → World → Prop} {Q : Exit → Act → World → Prop} {E : Prop}
  (hg : o.guard = none) (s x : Operand) (t : TypeId) (hop : o.op = Op.call { callee := Callee.builtin Builtin.append, args := #[s, x], argTypes := #[t, t] })
  (e : TypeId) (i : TypeInfo) (z : Value) (size bytes : Nat) (ht : P.underlying t = some (.slice e)) (hi : P.info? e = some i) (hz : i.zero = some z)
  (hsize : i.size = size) (hby : i.bytes = bytes) (hzs : z.cells.size = size) (hsz : 0 < size)
  (ao : Option Addr) (n : Nat) (olds : List Value) (hs : a.eval s = .slice ao n n) (hnone : ao = none → n = 0) (hlo : olds.length = n * size) (holds : ∀ b, ao = some b → ∀ j u, olds[j]? = some u → w.cell? (b.add j) = some u)
  (xv : Value) (m : Nat) (news : List Value) (hx : a.eval x = xv) (hsrc : SrcV w xv m news) (hl : news.length = m * size) (h1 : ∀ u ∈ news, u.oneCell' = true)
  (h63 : n + m ≤ maxLen) (hbytes : (n + m) * bytes ≤ 140737488355328)
  (hK : ∀ v' w', ((m = 0 ∧ v' = .slice ao n n ∧ w' = w) ∨ (0 < m ∧ w'.ownsRow w.heap.size e size v' (n + m) (olds ++ news) ∧ w.grownBy w' none)) → K (a.put o.dst v') w') :
  if Region.wanted o (yielded ops a.tmps) = true then Oper.wp P o a w K Q else E := by
 have hw : Region.wanted o (yielded ops a.tmps) = true := by simp [Region.wanted, hg]
 rw [if_pos hw]
 obtain ⟨v', w', hr, h2⟩ := run_append_cut (P := P) w t o.type e i z size bytes ht hi hz hsize hby hzs hsz ao n olds hnone hlo holds xv m news hsrc hl h1 h63 hbytes
 unfold Oper.wp
 simp [execOp, hop, resolve, invoke, builtin, hs, hx, hr, Result.andThen]
 exact hK v' w' h2
end Go.Proofs.YtojobkhidlfeoaaDoor

/-! A machine in memory: its box, its frames, its objects; what is kept where its blocks are written. -/
namespace Go.Proofs.YtojobkhidlfeoaaDoor
open Go.RowKit

/-- A world without some blocks' cells. -/
def offs (w : World) (U : List Nat) : World := U.foldl offW w
theorem offs_size (U : List Nat) : ∀ w : World, (offs w U).heap.size = w.heap.size := by
 induction U with
 | nil => intro w; rfl
 | cons b U ih => intro w; show (offs (offW w b) U).heap.size = _; rw [ih, offW_size]
theorem offs_cell (U : List Nat) : ∀ {w : World} {p : Addr} {v : Value}, (offs w U).cell? p = some v → p.block ∉ U ∧ w.cell? p = some v := by
 induction U with
 | nil => intro w p v h; exact ⟨by simp, h⟩
 | cons b U ih =>
  intro w p v h
  obtain ⟨h1, h2⟩ := ih (w := offW w b) h
  obtain ⟨h3, h4⟩ := offW_cell h2
  exact ⟨by simp [h1, h3], h4⟩
theorem offs_heap (U : List Nat) : ∀ (w : World) (k : Nat), k ∉ U → (offs w U).heap[k]? = w.heap[k]? := by
 induction U with
 | nil => intro w k _; rfl
 | cons b U ih =>
  intro w k h
  simp only [List.mem_cons, not_or] at h
  show (offs (offW w b) U).heap[k]? = _
  rw [ih (offW w b) k h.2, offW_heap w b k h.1]
theorem cell_offs {U : List Nat} {w : World} {p : Addr} {v : Value} (h : w.cell? p = some v) (hp : p.block ∉ U) : (offs w U).cell? p = some v := by
 rw [← h]
 exact World.cell?_of_block (offs_heap U w p.block hp)
/-- What was read outside of these blocks is still read. -/
theorem offs_reads {w w' : World} {U U' T : List Nat} (hu : Upd T w w') (hT : ∀ b ∈ T, b ∈ U) (hU : ∀ b ∈ U', b ∈ U ∨ w.heap.size ≤ b) : Reads (offs w U) (offs w' U') := by
 intro p v h
 obtain ⟨h1, h2⟩ := offs_cell U h
 refine cell_offs (hu.cell h2 (fun hm => h1 (hT _ hm))) (fun hm => ?_)
 rcases hU _ hm with h3 | h3
 ·exact h1 h3
 ·have := World.block_lt_of_cell? w p h2
  omega
/-- The blocks that were made since. -/
def news (w w' : World) : List Nat := List.range' w.heap.size (w'.heap.size - w.heap.size)
theorem mem_news {w w' : World} {b : Nat} : b ∈ news w w' ↔ w.heap.size ≤ b ∧ b < w'.heap.size := by
 unfold news
 rw [List.mem_range'_1]
 omega

/-- The rows' values of a frame. -/
structure FmV where
 lv : Value
 sv : Value
deriving Inhabited
def fmcells : List Fm → List FmV → List Value
 | f :: fs, v :: vs => .int .i64 f.m :: .int .i64 f.pc :: v.lv :: v.sv :: fmcells fs vs
 | _, _ => []
theorem fmcells_len : ∀ (fs : List Fm) (vs : List FmV), vs.length = fs.length → (fmcells fs vs).length = fs.length * 4
 | [], [], _ => rfl
 | f :: fs, v :: vs, h => by
  simp only [fmcells, List.length_cons, fmcells_len fs vs (by simpa using h)]
  omega
theorem fmcells_snoc : ∀ (fs : List Fm) (vs : List FmV) (f : Fm) (v : FmV), vs.length = fs.length → fmcells (fs ++ [f]) (vs ++ [v]) = fmcells fs vs ++ [.int .i64 f.m, .int .i64 f.pc, v.lv, v.sv]
 | [], [], _, _, _ => rfl
 | a :: fs, b :: vs, f, v, h => by
  simp only [fmcells, List.cons_append]
  rw [fmcells_snoc fs vs f v (by simpa using h)]
def obcells : List Ob → List Value → List Value
 | o :: os, v :: vs => .int .i64 o.cls :: v :: obcells os vs
 | _, _ => []
theorem obcells_len : ∀ (os : List Ob) (vs : List Value), vs.length = os.length → (obcells os vs).length = os.length * 2
 | [], [], _ => rfl
 | f :: fs, v :: vs, h => by
  simp only [obcells, List.length_cons, obcells_len fs vs (by simpa using h)]
  omega
theorem obcells_snoc : ∀ (os : List Ob) (vs : List Value) (o : Ob) (v : Value), vs.length = os.length → obcells (os ++ [o]) (vs ++ [v]) = obcells os vs ++ [.int .i64 o.cls, v]
 | [], [], _, _, _ => rfl
 | a :: fs, b :: vs, f, v, h => by
  simp only [obcells, List.cons_append]
  rw [obcells_snoc fs vs f v (by simpa using h)]
theorem obcells_get : ∀ (os : List Ob) (vs : List Value) (i : Nat), vs.length = os.length → i < os.length → (obcells os vs)[i * 2]? = some (.int .i64 (os.getD i default).cls) ∧ (obcells os vs)[i * 2 + 1]? = some (vs.getD i default)
 | [], _, i, _, h => by simp at h
 | f :: fs, v :: vs, 0, _, _ => ⟨rfl, rfl⟩
 | f :: fs, v :: vs, i + 1, h, h2 => by
  have ih := obcells_get fs vs i (by simpa using h) (by simpa using h2)
  have e : (i + 1) * 2 = i * 2 + 2 := by omega
  rw [e]
  exact ih
theorem obcells_set : ∀ (os : List Ob) (vs : List Value) (i : Nat) (o : Ob), o.cls = (os.getD i default).cls → obcells (os.set i o) vs = obcells os vs
 | [], _, _, _, _ => by simp
 | a :: os, [], _, _, _ => by simp [obcells]
 | a :: os, v :: vs, 0, o, h => by
  have h2 : o.cls = a.cls := h
  simp only [List.set_cons_zero, obcells, h2]
 | a :: os, v :: vs, i + 1, o, h => by
  simp only [List.set_cons_succ, obcells]
  rw [obcells_set os vs i o h]
/-- Integers that can be read, in block b from o on. -/
def LngV (w : World) (v : Value) (b o : Nat) (xs : List Int) : Prop :=
 (∃ p c, v = .slice p xs.length c ∧ xs.length ≤ c ∧ c ≤ maxLen ∧ (xs ≠ [] → p = some ⟨b, o, none⟩)) ∧ ∀ i, i < xs.length → w.cell? ⟨b, o + i, none⟩ = some (.int .i64 (xs.getD i default))
theorem LngV.upd {w w' : World} {v : Value} {b o : Nat} {xs : List Int} {T : List Nat} (h : LngV w v b o xs) (hu : Upd T w w') (hT : xs = [] ∨ b ∉ T) : LngV w' v b o xs := by
 refine ⟨h.1, fun i hi => ?_⟩
 rcases hT with rfl | hT
 ·simp at hi
 ·exact hu.cell (h.2 i hi) hT

/-- The values of a machine's rows. -/
structure MX where
 cv : Value
 mv : Value
 iv : Value
 fv : Value
 ov : Value
 uv : Value
 gs : List FmV
 os : List Value
/-- The cells of a machine's box. -/
def mccells (ib : Nat) (S : Mc) (X : MX) : Array Value :=
 #[.pointer (some ⟨ib, 0, none⟩), X.cv, X.mv, X.iv, .int .i64 S.fuel, X.fv, X.ov, .int .i64 (S.fin.getD ⟨0, 0, 0, 0, 0⟩).kind, .int .i64 (S.fin.getD ⟨0, 0, 0, 0, 0⟩).trap, .int .i64 (S.fin.getD ⟨0, 0, 0, 0, 0⟩).meth, .int .i64 (S.fin.getD ⟨0, 0, 0, 0, 0⟩).pc, .int .i64 (S.fin.getD ⟨0, 0, 0, 0, 0⟩).value, X.uv, .bool S.fin.isSome]
/-- The stack's row of a frame. -/
structure StV (w : World) (R L O : List Nat) (v : Value) (s : List Vl) : Prop where
 read : ∃ b, VlV w v b 0 s ∧ (s ≠ [] → b ∈ R ∧ b ∉ L ∧ b ∉ O ∧ ∃ c, w.heap[b]? = some (.cells c 85))
 form : ∃ p c, v = .slice p s.length c ∧ s.length ≤ c ∧ c ≤ maxLen ∧ (p = none → c = 0)
/-- Blocks that are none of the stacks'. -/
def NoSt (w : World) (R L O T : List Nat) : Prop := ∀ b ∈ T, b ∈ R → b ∈ L ∨ b ∈ O ∨ ∀ c, w.heap[b]? ≠ some (.cells c 85)
theorem StV.upd {w w' : World} {R L O : List Nat} {v : Value} {s : List Vl} {T : List Nat} (h : StV w R L O v s) (hu : Upd T w w') (hT : NoSt w R L O T) : StV w' R L O v s := by
 obtain ⟨b, h1, h2⟩ := h.read
 by_cases hs : s = []
 ·exact ⟨⟨b, h1.upd hu (.inl hs), fun h => absurd hs h⟩, h.form⟩
 ·obtain ⟨h3, h4, h5, c, h6⟩ := h2 hs
  have hb : b ∉ T := fun hm => (hT b hm h3).elim h4 (fun h => h.elim h5 (fun h => h c h6))
  exact ⟨⟨b, h1.upd hu (.inr hb), fun _ => ⟨h3, h4, h5, c, hu.heap h6 hb⟩⟩, h.form⟩
theorem StV.sub {w : World} {R R' L L' O O' : List Nat} {v : Value} {s : List Vl} (h : StV w R L O v s) (hR : ∀ b ∈ R, b ∈ R') (hL : ∀ b ∈ R, b ∈ L' → b ∈ L) (hO : ∀ b ∈ R, b ∈ O' → b ∈ O) : StV w R' L' O' v s := by
 obtain ⟨b, h1, h2⟩ := h.read
 exact ⟨⟨b, h1, fun hs => ⟨hR b (h2 hs).1, fun hm => (h2 hs).2.1 (hL b (h2 hs).1 hm), fun hm => (h2 hs).2.2.1 (hO b (h2 hs).1 hm), (h2 hs).2.2.2⟩⟩, h.form⟩
/-- A machine. -/
structure MAt (B : Nat) (w : World) (U R : List Nat) (mb ib : Nat) (p : Prg) (S : Mc) (X : MX) : Prop where
 box : w.heap[mb]? = some (.cells (mccells ib S X) 78)
 sub : ∀ b ∈ R, b ∈ U
 low : ∀ b ∈ R, B ≤ b ∧ b < w.heap.size
 cls : ClassAt (offs w U) X.cv p.cs
 mth : MethsAt (offs w U) X.mv p.ms
 frow : w.ownsRow B 82 4 X.fv S.frs.length (fmcells S.frs.reverse X.gs.reverse)
 glen : X.gs.length = S.frs.length
 orow : w.ownsRow B 120 2 X.ov S.objs.length (obcells S.objs X.os)
 loc : Rows 85 w B (X.gs.map FmV.lv) (S.frs.map Fm.loc)
 val : Rows 85 w B X.os (S.objs.map Ob.vals)
 dis : ∀ b ∈ blks (X.gs.map FmV.lv), b ∉ blks X.os
 stk : ∀ i, i < S.frs.length → StV w R (blks (X.gs.map FmV.lv)) (blks X.os) (X.gs.getD i default).sv (S.frs.getD i default).stk
 cut : ∀ i, 0 < i → i < S.frs.length → ∃ p, (X.gs.getD i default).sv = .slice p (S.frs.getD i default).stk.length (S.frs.getD i default).stk.length
 inp : ∃ b o, LngV w X.iv b o S.inp ∧ (S.inp ≠ [] → b ∈ R ∧ X.uv.ownBlock ≠ some b ∧ ∃ c, w.heap[b]? = some (.cells c 2))
 out : w.ownsRow B 2 1 X.uv S.out.length (S.out.map (.int .i64))
 mine : mb ∈ R
 own : ∀ b, (X.fv.ownBlock = some b ∨ X.ov.ownBlock = some b ∨ X.uv.ownBlock = some b ∨ b ∈ blks (X.gs.map FmV.lv) ∨ b ∈ blks X.os) → b ∈ R
/-- Others' blocks are written, blocks are made. -/
theorem MAt.keep {B : Nat} {w w' : World} {U U' R : List Nat} {mb ib : Nat} {p : Prg} {S : Mc} {X : MX} {T : List Nat} (h : MAt B w U R mb ib p S X) (hu : Upd T w w') (hT : ∀ b ∈ T, b ∈ U ∧ b ∉ R) (hU : ∀ b ∈ U', b ∈ U ∨ w.heap.size ≤ b) (hU2 : ∀ b ∈ U, b ∈ U') : MAt B w' U' R mb ib p S X := by
 have hr := offs_reads hu (fun b hb => (hT b hb).1) hU
 have off : ∀ b, b ∈ R → b ∉ T := fun b hb hm => (hT b hm).2 hb
 refine ⟨hu.heap h.box (off _ h.mine), fun b hb => hU2 b (h.sub b hb), fun b hb => ⟨(h.low b hb).1, Nat.lt_of_lt_of_le (h.low b hb).2 hu.size⟩, h.cls.reads hr, h.mth.reads hr, row_upd h.frow hu (fun k hk => off k (h.own k (.inl hk))), h.glen, row_upd h.orow hu (fun k hk => off k (h.own k (.inr (.inl hk)))), h.loc.upd hu (fun b hb => off b (h.own b (.inr (.inr (.inr (.inl hb)))))), h.val.upd hu (fun b hb => off b (h.own b (.inr (.inr (.inr (.inr hb)))))), h.dis, fun i hi => (h.stk i hi).upd hu (fun b hb hR => absurd hR (hT b hb).2), h.cut, ?_, row_upd h.out hu (fun k hk => off k (h.own k (.inr (.inr (.inl hk))))), h.mine, h.own⟩
 obtain ⟨b, o, h1, h2⟩ := h.inp
 refine ⟨b, o, h1.upd hu ?_, fun hne => ⟨(h2 hne).1, (h2 hne).2.1, ?_⟩⟩
 ·by_cases e : S.inp = []
  ·exact .inl e
  ·exact .inr (off b (h2 e).1)
 ·obtain ⟨c, hc⟩ := (h2 hne).2.2
  exact ⟨c, hu.heap hc (off b (h2 hne).1)⟩
/-- More blocks may be the machine's. -/
theorem MAt.more {B : Nat} {w : World} {U R R' : List Nat} {mb ib : Nat} {p : Prg} {S : Mc} {X : MX} (h : MAt B w U R mb ib p S X) (hR : ∀ b ∈ R, b ∈ R') (hU : ∀ b ∈ R', b ∈ U) (hn : ∀ b ∈ R', b ∈ R ∨ B ≤ b ∧ b < w.heap.size ∧ b ∉ blks (X.gs.map FmV.lv) ∧ b ∉ blks X.os) : MAt B w U R' mb ib p S X :=
 ⟨h.box, hU, fun b hb => (hn b hb).elim (h.low b) (fun h => ⟨h.1, h.2.1⟩), h.cls, h.mth, h.frow, h.glen, h.orow, h.loc, h.val, h.dis, fun i hi => (h.stk i hi).sub hR (fun _ _ h => h) (fun _ _ h => h), h.cut, by
  obtain ⟨b, o, h1, h2⟩ := h.inp
  exact ⟨b, o, h1, fun hne => ⟨hR b (h2 hne).1, (h2 hne).2⟩⟩, h.out, hR _ h.mine, fun b hb => hR b (h.own b hb)⟩
/-- Blocks are made: they are the machine's. -/
theorem MAt.new {B : Nat} {w w' : World} {U R : List Nat} {mb ib : Nat} {p : Prg} {S : Mc} {X : MX} (h : MAt B w U R mb ib p S X) (hu : Upd [] w w') : MAt B w' (U ++ news w w') (R ++ news w w') mb ib p S X := by
 have h1 : MAt B w' (U ++ news w w') R mb ib p S X := h.keep hu (by simp) (fun b hb => (List.mem_append.1 hb).imp_right fun hb => (mem_news.1 hb).1) (fun b hb => List.mem_append.2 (.inl hb))
 have hlow := h.low
 have hB : B ≤ w.heap.size := Nat.le_of_lt (Nat.lt_of_le_of_lt (hlow mb h.mine).1 (hlow mb h.mine).2)
 refine h1.more (fun b hb => List.mem_append.2 (.inl hb)) (fun b hb => ?_) (fun b hb => ?_)
 ·rcases List.mem_append.1 hb with h2 | h2
  ·exact List.mem_append.2 (.inl (h.sub b h2))
  ·exact List.mem_append.2 (.inr h2)
 ·rcases List.mem_append.1 hb with h2 | h2
  ·exact .inl h2
  ·have h3 := mem_news.1 h2
   refine .inr ⟨by omega, h3.2, fun hm => ?_, fun hm => ?_⟩
   ·have := hlow b (h.own b (.inr (.inr (.inr (.inl hm))))); omega
   ·have := hlow b (h.own b (.inr (.inr (.inr (.inr hm))))); omega
end Go.Proofs.YtojobkhidlfeoaaDoor

/-! A machine in memory: its box, a frame, an object, what was put out are turned. -/
namespace Go.Proofs.YtojobkhidlfeoaaDoor
open Go.RowKit

section
variable {B : Nat} {w w' : World} {U R : List Nat} {mb ib : Nat} {p : Prg} {S : Mc} {X : MX}
/-- The machine's own blocks are written. -/
theorem MAt.turn (h : MAt B w U R mb ib p S X) {S' : Mc} {X' : MX} {T : List Nat} (hu : Upd T w w') (hT : ∀ b ∈ T, b ∈ R) (hcv : X'.cv = X.cv) (hmv : X'.mv = X.mv)
  (box : w'.heap[mb]? = some (.cells (mccells ib S' X') 78))
  (frow : w'.ownsRow B 82 4 X'.fv S'.frs.length (fmcells S'.frs.reverse X'.gs.reverse))
  (glen : X'.gs.length = S'.frs.length)
  (orow : w'.ownsRow B 120 2 X'.ov S'.objs.length (obcells S'.objs X'.os))
  (loc : Rows 85 w' B (X'.gs.map FmV.lv) (S'.frs.map Fm.loc))
  (val : Rows 85 w' B X'.os (S'.objs.map Ob.vals))
  (dis : ∀ b ∈ blks (X'.gs.map FmV.lv), b ∉ blks X'.os)
  (stk : ∀ i, i < S'.frs.length → StV w' R (blks (X'.gs.map FmV.lv)) (blks X'.os) (X'.gs.getD i default).sv (S'.frs.getD i default).stk)
  (cut : ∀ i, 0 < i → i < S'.frs.length → ∃ p, (X'.gs.getD i default).sv = .slice p (S'.frs.getD i default).stk.length (S'.frs.getD i default).stk.length)
  (inp : ∃ b o, LngV w' X'.iv b o S'.inp ∧ (S'.inp ≠ [] → b ∈ R ∧ X'.uv.ownBlock ≠ some b ∧ ∃ c, w'.heap[b]? = some (.cells c 2)))
  (out : w'.ownsRow B 2 1 X'.uv S'.out.length (S'.out.map (.int .i64)))
  (own : ∀ b, (X'.fv.ownBlock = some b ∨ X'.ov.ownBlock = some b ∨ X'.uv.ownBlock = some b ∨ b ∈ blks (X'.gs.map FmV.lv) ∨ b ∈ blks X'.os) → b ∈ R) : MAt B w' U R mb ib p S' X' := by
 have hr := offs_reads (U' := U) hu (fun b hb => h.sub b (hT b hb)) (fun b hb => .inl hb)
 exact ⟨box, h.sub, fun b hb => ⟨(h.low b hb).1, Nat.lt_of_lt_of_le (h.low b hb).2 hu.size⟩, by rw [hcv]; exact h.cls.reads hr, by rw [hmv]; exact h.mth.reads hr, frow, glen, orow, loc, val, dis, stk, cut, inp, out, h.mine, own⟩
theorem Rows.typ {t : TypeId} {vs : List Value} {xss : List (List Vl)} (h : Rows t w B vs xss) : ∀ b ∈ blks vs, ∃ c, w.heap[b]? = some (.cells c t) := by
 intro b hb
 unfold blks at hb
 rw [List.mem_filterMap] at hb
 obtain ⟨v, hv, hb⟩ := hb
 obtain ⟨i, hi, rfl⟩ := List.getElem_of_mem hv
 have := (h.row i (by rw [← h.len]; exact hi)).2
 rw [List.getD_eq_getElem?_getD, List.getElem?_eq_getElem hi, Option.getD_some] at this
 rcases this with ⟨h1, _⟩ | ⟨g, c, cur, h1, h2, h3, _⟩
 ·rw [h1] at hb; cases hb
 ·rw [h1] at hb
  simp only [Value.ownBlock, Option.some.injEq] at hb
  subst hb
  exact ⟨cur, h3⟩
theorem typ_ne {b : Nat} {c c' : Array Value} {t t' : TypeId} (h : w.heap[b]? = some (.cells c t)) (h' : w.heap[b]? = some (.cells c' t')) : t = t' := by
 rw [h] at h'
 injection h' with h'
 injection h'
theorem own_typ {e : TypeId} {s n : Nat} {v : Value} {xs : List Value} {b : Nat} (h : w.ownsRow B e s v n xs) (hb : v.ownBlock = some b) : ∃ c, w.heap[b]? = some (.cells c e) := by
 rcases h.2 with ⟨h1, _⟩ | ⟨g, c, cur, h1, _, h3, _⟩
 ·rw [h1] at hb; cases hb
 ·rw [h1] at hb
  simp only [Value.ownBlock, Option.some.injEq] at hb
  subst hb
  exact ⟨cur, h3⟩
/-- A block of another type is not of a row's. -/
theorem row_off {e t : TypeId} {s n : Nat} {v : Value} {xs : List Value} {b : Nat} {c : Array Value} (h : w.ownsRow B e s v n xs) (hb : w.heap[b]? = some (.cells c t)) (hne : e ≠ t) : ∀ k, v.ownBlock = some k → k ∉ [b] := by
 intro k hk hm
 rw [List.mem_singleton] at hm
 subst hm
 obtain ⟨c', hc⟩ := own_typ h hk
 exact hne (typ_ne hc hb)
theorem rows_off {e t : TypeId} {vs : List Value} {xss : List (List Vl)} {b : Nat} {c : Array Value} (h : Rows e w B vs xss) (hb : w.heap[b]? = some (.cells c t)) (hne : e ≠ t) : ∀ k ∈ blks vs, k ∉ [b] := by
 intro k hk hm
 rw [List.mem_singleton] at hm
 subst hm
 obtain ⟨c', hc⟩ := h.typ k hk
 exact hne (typ_ne hc hb)
theorem nost_of {L O : List Nat} {b : Nat} {t : TypeId} {c : Array Value} (hb : w.heap[b]? = some (.cells c t)) (hne : t ≠ 85) : NoSt w R L O [b] := by
 intro k hk _
 rw [List.mem_singleton] at hk
 subst hk
 exact .inr (.inr fun c' hc' => hne (typ_ne hb hc'))
theorem inp_off {iv uv : Value} {inp : List Int} {b : Nat} {t : TypeId} {c : Array Value} (h : ∃ b o, LngV w iv b o inp ∧ (inp ≠ [] → b ∈ R ∧ uv.ownBlock ≠ some b ∧ ∃ c, w.heap[b]? = some (.cells c 2))) (hu : Upd [b] w w') (hb : w.heap[b]? = some (.cells c t)) (hne : t ≠ 2) :
  ∃ b o, LngV w' iv b o inp ∧ (inp ≠ [] → b ∈ R ∧ uv.ownBlock ≠ some b ∧ ∃ c, w'.heap[b]? = some (.cells c 2)) := by
 obtain ⟨q, o, h1, h2⟩ := h
 by_cases e : inp = []
 ·exact ⟨q, o, h1.upd hu (.inl e), fun h => absurd e h⟩
 ·obtain ⟨h3, h4, c', h5⟩ := h2 e
  have hq : q ∉ [b] := fun hm => by
   rw [List.mem_singleton] at hm
   subst hm
   exact hne (typ_ne hb h5)
  exact ⟨q, o, h1.upd hu (.inr hq), fun _ => ⟨h3, h4, c', hu.heap h5 hq⟩⟩
/-- The box is written: fuel, the end, the inputs. -/
theorem MAt.boxed (h : MAt B w U R mb ib p S X) {S' : Mc} {iv' : Value} (hu : Upd [mb] w w') (hb : w'.heap[mb]? = some (.cells (mccells ib S' { X with iv := iv' }) 78)) (hf : S'.frs = S.frs) (ho : S'.objs = S.objs) (hout : S'.out = S.out)
  (hi : ∃ b o, LngV w iv' b o S'.inp ∧ (S'.inp ≠ [] → b ∈ R ∧ X.uv.ownBlock ≠ some b ∧ ∃ c, w.heap[b]? = some (.cells c 2))) : MAt B w' U R mb ib p S' { X with iv := iv' } := by
 refine h.turn hu (by simp [h.mine]) rfl rfl hb ?_ ?_ ?_ ?_ ?_ h.dis ?_ ?_ ?_ ?_ h.own
 ·rw [hf]; exact row_upd h.frow hu (row_off h.frow h.box (by decide))
 ·rw [hf]; exact h.glen
 ·rw [ho]; exact row_upd h.orow hu (row_off h.orow h.box (by decide))
 ·rw [hf]; exact h.loc.upd hu (rows_off h.loc h.box (by decide))
 ·rw [ho]; exact h.val.upd hu (rows_off h.val h.box (by decide))
 ·rw [hf]; exact fun i hi => (h.stk i hi).upd hu (nost_of h.box (by decide))
 ·rw [hf]; exact h.cut
 ·exact inp_off hi hu h.box (by decide)
 ·rw [hout]; exact row_upd h.out hu (row_off h.out h.box (by decide))
/-- The frame on top, in its row. -/
theorem MAt.top (h : MAt B w U R mb ib p S X) {f : Fm} {below : List Fm} (hf : S.frs = f :: below) : ∃ g gb fb c, X.gs = g :: gb ∧ gb.length = below.length ∧ X.fv = .slice (some ⟨fb, 0, none⟩) (below.length + 1) c ∧ below.length + 1 ≤ c ∧ c ≤ maxLen ∧ fb ∈ R ∧ (∃ q, w.heap[fb]? = some (.cells q 82)) ∧
  w.cell? ⟨fb, below.length * 4, none⟩ = some (.int .i64 f.m) ∧ w.cell? ⟨fb, below.length * 4 + 1, none⟩ = some (.int .i64 f.pc) ∧ w.cell? ⟨fb, below.length * 4 + 2, none⟩ = some g.lv ∧ w.cell? ⟨fb, below.length * 4 + 3, none⟩ = some g.sv := by
 have hl := h.glen
 rw [hf] at hl
 obtain ⟨g, gb, hg⟩ := List.exists_cons_of_ne_nil (show X.gs ≠ [] from fun e => by rw [e] at hl; simp at hl)
 have hgl : gb.length = below.length := by rw [hg] at hl; simpa using hl
 have hr := h.frow
 rw [hf, hg, List.reverse_cons, List.reverse_cons, fmcells_snoc _ _ _ _ (by simp [hgl])] at hr
 rcases hr.2 with ⟨h1, h2⟩ | ⟨fb, c, cur, h1, h2, h3, h4, h5, _⟩
 ·simp at h2
 ·have cell : ∀ j u, (fmcells below.reverse gb.reverse ++ [.int .i64 f.m, .int .i64 f.pc, g.lv, g.sv])[j]? = some u → w.cell? ⟨fb, j, none⟩ = some u := fun j u hj => by
   have := World.ownsRow.cells hr (g := fb) (by rw [h1]; rfl) j u hj
   rwa [Addr.add_lit, Nat.zero_add] at this
  have hfl := fmcells_len below.reverse gb.reverse (by simp [hgl])
  rw [List.length_reverse] at hfl
  have at_ : ∀ k, k < 4 → (fmcells below.reverse gb.reverse ++ [.int .i64 f.m, .int .i64 f.pc, g.lv, g.sv])[below.length * 4 + k]? = [Value.int .i64 (f.m : Int), .int .i64 (f.pc : Int), g.lv, g.sv][k]? := fun k hk => by
   rw [List.getElem?_append_right (by omega), hfl]
   congr 1
   omega
  refine ⟨g, gb, fb, c, hg, hgl, by rw [h1]; simp, by simpa using h4, h5, h.own fb (.inl (by rw [h1]; rfl)), ⟨cur, h3⟩, ?_, ?_, ?_, ?_⟩
  ·exact cell _ _ (at_ 0 (by omega))
  ·exact cell _ _ (at_ 1 (by omega))
  ·exact cell _ _ (at_ 2 (by omega))
  ·exact cell _ _ (at_ 3 (by omega))
/-- .. its rows. -/
theorem MAt.topV (h : MAt B w U R mb ib p S X) {f : Fm} {below : List Fm} {g : FmV} {gb : List FmV} (hf : S.frs = f :: below) (hg : X.gs = g :: gb) : (∃ lp lc, g.lv = .slice lp f.loc.length lc) ∧ ∃ sp sc, g.sv = .slice sp f.stk.length sc ∧ f.stk.length ≤ sc ∧ sc ≤ maxLen ∧ (sp = none → sc = 0) := by
 have h1 := h.loc.row 0 (by rw [hf]; simp)
 have h2 := (h.stk 0 (by rw [hf]; simp)).form
 rw [hf, hg] at h1 h2
 exact ⟨h1.shape, h2⟩
/-- A cell of the frame on top is written. -/
theorem fmrow_set {fb c k : Nat} {below : List Fm} {gb : List FmV} {f f' : Fm} {g g' : FmV} {u : Value} (hl : gb.length = below.length) (h : w.ownsRow B 82 4 (.slice (some ⟨fb, 0, none⟩) (below.length + 1) c) (f :: below).length (fmcells (f :: below).reverse (g :: gb).reverse)) (hk : k < 4) (hc : [Value.int .i64 (f.m : Int), .int .i64 (f.pc : Int), g.lv, g.sv].set k u = [Value.int .i64 (f'.m : Int), .int .i64 (f'.pc : Int), g'.lv, g'.sv]) :
  (w.setCell ⟨fb, below.length * 4 + k, none⟩ u).ownsRow B 82 4 (.slice (some ⟨fb, 0, none⟩) (below.length + 1) c) (f' :: below).length (fmcells (f' :: below).reverse (g' :: gb).reverse) := by
 rw [List.reverse_cons, List.reverse_cons, fmcells_snoc _ _ _ _ (by simp [hl])] at h ⊢
 have hfl := fmcells_len below.reverse gb.reverse (by simp [hl])
 rw [List.length_reverse] at hfl
 obtain ⟨h0, h1⟩ := h
 refine ⟨by simpa using h0, ?_⟩
 rcases h1 with ⟨h1, _⟩ | ⟨g1, c1, cur, h1, h2, h3, h4, h5, h6, h7⟩
 ·cases h1
 ·injection h1 with e1 _ e3
  injection e1 with e1
  injection e1 with e1
  subst e1 e3
  refine .inr ⟨fb, c, cur.setIfInBounds (below.length * 4 + k) u, rfl, h2, heap_setCell h3 _ _, by simpa using h4, h5, by simpa using h6, ?_⟩
  have h7' : cur.toList.take ((below.length + 1) * 4) = fmcells below.reverse gb.reverse ++ [.int .i64 f.m, .int .i64 f.pc, g.lv, g.sv] := h7
  show (cur.setIfInBounds (below.length * 4 + k) u).toList.take ((below.length + 1) * 4) = _
  rw [Array.toList_setIfInBounds, List.take_set, h7', List.set_append_right _ _ (by omega), hfl, show below.length * 4 + k - below.length * 4 = k by omega, hc]
/-- .. its place, or its stack's row. -/
theorem MAt.setTop (h : MAt B w U R mb ib p S X) {f f' : Fm} {below : List Fm} {g g' : FmV} {gb : List FmV} {fb c k : Nat} {u : Value} (hf : S.frs = f :: below) (hg : X.gs = g :: gb) (hfv : X.fv = .slice (some ⟨fb, 0, none⟩) (below.length + 1) c) (hk : k < 4) (hc : [Value.int .i64 (f.m : Int), .int .i64 (f.pc : Int), g.lv, g.sv].set k u = [Value.int .i64 (f'.m : Int), .int .i64 (f'.pc : Int), g'.lv, g'.sv])
  (hlv : g'.lv = g.lv) (hloc : f'.loc = f.loc) (hst : StV w R (blks (X.gs.map FmV.lv)) (blks X.os) g'.sv f'.stk) :
  MAt B (w.setCell ⟨fb, below.length * 4 + k, none⟩ u) U R mb ib p { S with frs := f' :: below } { X with gs := g' :: gb } ∧ Upd [fb] w (w.setCell ⟨fb, below.length * 4 + k, none⟩ u) := by
 have hu : Upd [fb] w (w.setCell ⟨fb, below.length * 4 + k, none⟩ u) := (Upd.refl [fb] w).setCell (.inl (by simp)) _
 have hgl : gb.length = below.length := by have := h.glen; rw [hf, hg] at this; simpa using this
 have hR : fb ∈ R := h.own fb (.inl (by rw [hfv]; rfl))
 have hrow := h.frow
 rw [hf, hg, hfv] at hrow
 obtain ⟨q, hq⟩ := own_typ hrow (b := fb) rfl
 have em : (g' :: gb).map FmV.lv = X.gs.map FmV.lv := by rw [hg, List.map_cons, List.map_cons, hlv]
 have el : ((f' :: below).map Fm.loc) = S.frs.map Fm.loc := by rw [hf, List.map_cons, List.map_cons, hloc]
 refine ⟨h.turn hu (by simp [hR]) rfl rfl ?_ ?_ ?_ ?_ ?_ ?_ ?_ ?_ ?_ ?_ ?_ ?_, hu⟩
 ·exact hu.heap h.box (fun hm => by rw [List.mem_singleton] at hm; subst hm; exact absurd (typ_ne h.box hq) (by decide))
 ·show World.ownsRow _ B _ 4 X.fv _ _
  rw [hfv]
  exact fmrow_set hgl hrow hk hc
 ·show (g' :: gb).length = (f' :: below).length
  simp [hgl]
 ·exact row_upd h.orow hu (row_off h.orow hq (by decide))
 ·show Rows _ _ B ((g' :: gb).map FmV.lv) ((f' :: below).map Fm.loc)
  rw [em, el]
  exact h.loc.upd hu (rows_off h.loc hq (by decide))
 ·exact h.val.upd hu (rows_off h.val hq (by decide))
 ·show ∀ b ∈ blks ((g' :: gb).map FmV.lv), b ∉ blks X.os
  rw [em]
  exact h.dis
 ·intro i hi
  show StV _ R (blks ((g' :: gb).map FmV.lv)) (blks X.os) ((g' :: gb).getD i default).sv ((f' :: below).getD i default).stk
  rw [em]
  match i with
  | 0 => exact hst.upd hu (nost_of hq (by decide))
  | i + 1 =>
   have h1 := h.stk (i + 1) (by rw [hf]; simpa using hi)
   have e : X.gs.getD (i + 1) default = gb.getD i default := by rw [hg]; rfl
   rw [hf, e] at h1
   exact h1.upd hu (nost_of hq (by decide))
 ·intro i h0 hi
  obtain ⟨i, rfl⟩ : ∃ j, i = j + 1 := ⟨i - 1, by omega⟩
  have h1 := h.cut (i + 1) h0 (by rw [hf]; simpa using hi)
  rw [hf, hg] at h1
  exact h1
 ·exact inp_off h.inp hu hq (by decide)
 ·exact row_upd h.out hu (row_off h.out hq (by decide))
 ·intro b hb
  rw [show blks (({ X with gs := g' :: gb } : MX).gs.map FmV.lv) = blks (X.gs.map FmV.lv) from congrArg blks em] at hb
  exact h.own b hb
/-- A local is stored. -/
theorem MAt.setLoc (h : MAt B w U R mb ib p S X) {f : Fm} {below : List Fm} {g : FmV} {gb : List FmV} {lb lc i : Nat} (v : Vl) (hf : S.frs = f :: below) (hg : X.gs = g :: gb) (hi : i < f.loc.length) (hlv : g.lv = .slice (some ⟨lb, 0, none⟩) f.loc.length lc) :
  MAt B ((w.setCell ⟨lb, i * 2, none⟩ (.bool v.ref)).setCell ⟨lb, i * 2 + 1, none⟩ (.int .i64 v.n)) U R mb ib p { S with frs := { f with loc := f.loc.set i v } :: below } X ∧ Upd [lb] w ((w.setCell ⟨lb, i * 2, none⟩ (.bool v.ref)).setCell ⟨lb, i * 2 + 1, none⟩ (.int .i64 v.n)) := by
 have hu : Upd [lb] w ((w.setCell ⟨lb, i * 2, none⟩ (.bool v.ref)).setCell ⟨lb, i * 2 + 1, none⟩ (.int .i64 v.n)) := ((Upd.refl [lb] w).setCell (.inl (by simp)) _).setCell (.inl (by simp)) _
 have hgl : gb.length = below.length := by have := h.glen; rw [hf, hg] at this; simpa using this
 have hrow := h.loc.row 0 (by rw [hf]; simp)
 rw [hf, hg] at hrow
 have hrow2 : OwnV 85 w B (.slice (some ⟨lb, 0, none⟩) f.loc.length lc) f.loc := by
  rw [← hlv]; exact hrow
 have hlb : lb ∈ blks (X.gs.map FmV.lv) := mem_blks (i := 0) (by rw [hg]; simp) (by rw [hg]; show g.lv.ownBlock = _; rw [hlv]; rfl)
 have hR : lb ∈ R := h.own lb (.inr (.inr (.inr (.inl hlb))))
 obtain ⟨q, hq⟩ := h.loc.typ lb hlb
 have hset := h.loc.set (i := 0) (b := lb) (xs := f.loc.set i v) (by rw [hf]; simp) (by rw [hg]; show g.lv.ownBlock = _; rw [hlv]; rfl) hu (by
  rw [hg]
  show OwnV _ _ B g.lv _
  rw [hlv]
  have := hrow2.put hi v
  rwa [List.length_set] at this)
 have ns : NoSt w R (blks (X.gs.map FmV.lv)) (blks X.os) [lb] := fun k hk _ => by
  rw [List.mem_singleton] at hk
  subst hk
  exact .inl hlb
 refine ⟨h.turn hu (by simp [hR]) rfl rfl ?_ ?_ ?_ ?_ ?_ ?_ h.dis ?_ ?_ ?_ ?_ h.own, hu⟩
 ·exact hu.heap h.box (fun hm => by rw [List.mem_singleton] at hm; subst hm; exact absurd (typ_ne h.box hq) (by decide))
 ·have e : fmcells ({ f with loc := f.loc.set i v } :: below).reverse X.gs.reverse = fmcells S.frs.reverse X.gs.reverse := by
   rw [hf, hg, List.reverse_cons, List.reverse_cons, List.reverse_cons, fmcells_snoc _ _ _ _ (by simp [hgl]), fmcells_snoc _ _ _ _ (by simp [hgl])]
  show World.ownsRow _ B _ 4 X.fv (({ f with loc := f.loc.set i v } : Fm) :: below).length _
  rw [e]
  have := row_upd h.frow hu (row_off h.frow hq (by decide))
  rw [hf] at this ⊢
  exact this
 ·show X.gs.length = (_ :: below).length
  rw [hg]
  simp [hgl]
 ·exact row_upd h.orow hu (row_off h.orow hq (by decide))
 ·show Rows _ _ B _ (({ f with loc := f.loc.set i v } : Fm).loc :: below.map Fm.loc)
  rw [hf] at hset
  exact hset
 ·exact h.val.upd hu (fun b hb hm => by rw [List.mem_singleton] at hm; subst hm; exact h.dis _ hlb hb)
 ·intro j hj
  have h1 := (h.stk j (by rw [hf]; simpa using hj)).upd hu ns
  rw [hf] at h1
  match j with
  | 0 => exact h1
  | j + 1 => exact h1
 ·intro j h0 hj
  obtain ⟨j, rfl⟩ : ∃ k, j = k + 1 := ⟨j - 1, by omega⟩
  have h1 := h.cut (j + 1) h0 (by rw [hf]; simpa using hj)
  rw [hf] at h1
  exact h1
 ·exact inp_off h.inp hu hq (by decide)
 ·exact row_upd h.out hu (row_off h.out hq (by decide))
theorem getD_set_ne {α : Type} {l : List α} {i j : Nat} {a d : α} (h : j ≠ i) : (l.set i a).getD j d = l.getD j d := by
 rw [List.getD_eq_getElem?_getD, List.getElem?_set, if_neg (fun e => h e.symm), List.getD_eq_getElem?_getD]
/-- An object, in its row. -/
theorem MAt.obj (h : MAt B w U R mb ib p S X) {r : Nat} (hr : r < S.objs.length) : ∃ ob oc vb vc, X.ov = .slice (some ⟨ob, 0, none⟩) S.objs.length oc ∧ S.objs.length ≤ oc ∧ oc ≤ maxLen ∧ w.cell? ⟨ob, r * 2, none⟩ = some (.int .i64 (S.objs.getD r default).cls) ∧ w.cell? ⟨ob, r * 2 + 1, none⟩ = some (.slice vb (S.objs.getD r default).vals.length vc) ∧
  X.os.getD r default = .slice vb (S.objs.getD r default).vals.length vc ∧ OwnV 85 w B (.slice vb (S.objs.getD r default).vals.length vc) (S.objs.getD r default).vals := by
 have hl : X.os.length = S.objs.length := by have := h.val.len; simpa using this
 obtain ⟨c0, c1⟩ := obcells_get S.objs X.os r hl hr
 have hrow := h.val.row r (by simpa using hr)
 have e : (S.objs.map Ob.vals).getD r [] = (S.objs.getD r default).vals := by
  simp [List.getD_eq_getElem?_getD, List.getElem?_map, List.getElem?_eq_getElem hr]
 rw [e] at hrow
 obtain ⟨vb, vc, hv⟩ := hrow.shape
 rw [hv] at hrow
 rcases h.orow.2 with ⟨h1, h2⟩ | ⟨g, c, cur, h1, h2, h3, h4, h5, _⟩
 ·omega
 ·have cell : ∀ j u, (obcells S.objs X.os)[j]? = some u → w.cell? ⟨g, j, none⟩ = some u := fun j u hj => by
   have := World.ownsRow.cells h.orow (g := g) (by rw [h1]; rfl) j u hj
   rwa [Addr.add_lit, Nat.zero_add] at this
  exact ⟨g, c, vb, vc, h1, h4, h5, cell _ _ c0, by rw [cell _ _ c1, hv], hv, hrow⟩
/-- A value of an object is stored. -/
theorem MAt.setVal (h : MAt B w U R mb ib p S X) {r i vb vc : Nat} (v : Vl) (hr : r < S.objs.length) (hi : i < (S.objs.getD r default).vals.length) (hv : X.os.getD r default = .slice (some ⟨vb, 0, none⟩) (S.objs.getD r default).vals.length vc) :
  MAt B ((w.setCell ⟨vb, i * 2, none⟩ (.bool v.ref)).setCell ⟨vb, i * 2 + 1, none⟩ (.int .i64 v.n)) U R mb ib p { S with objs := S.objs.set r ⟨(S.objs.getD r default).cls, (S.objs.getD r default).vals.set i v⟩ } X ∧ Upd [vb] w ((w.setCell ⟨vb, i * 2, none⟩ (.bool v.ref)).setCell ⟨vb, i * 2 + 1, none⟩ (.int .i64 v.n)) := by
 have hu : Upd [vb] w ((w.setCell ⟨vb, i * 2, none⟩ (.bool v.ref)).setCell ⟨vb, i * 2 + 1, none⟩ (.int .i64 v.n)) := ((Upd.refl [vb] w).setCell (.inl (by simp)) _).setCell (.inl (by simp)) _
 have hl : X.os.length = S.objs.length := by have := h.val.len; simpa using this
 have hrow := h.val.row r (by simpa using hr)
 have e : (S.objs.map Ob.vals).getD r [] = (S.objs.getD r default).vals := by
  simp [List.getD_eq_getElem?_getD, List.getElem?_map, List.getElem?_eq_getElem hr]
 rw [e, hv] at hrow
 have hvb : vb ∈ blks X.os := mem_blks (i := r) (by omega) (by rw [hv]; rfl)
 have hR : vb ∈ R := h.own vb (.inr (.inr (.inr (.inr hvb))))
 obtain ⟨q, hq⟩ := h.val.typ vb hvb
 have hset := h.val.set (i := r) (b := vb) (xs := (S.objs.getD r default).vals.set i v) (by simpa using hr) (by rw [hv]; rfl) hu (by
  rw [hv]
  have := hrow.put hi v
  rwa [List.length_set] at this)
 have ns : NoSt w R (blks (X.gs.map FmV.lv)) (blks X.os) [vb] := fun k hk _ => by
  rw [List.mem_singleton] at hk
  subst hk
  exact .inr (.inl hvb)
 refine ⟨h.turn hu (by simp [hR]) rfl rfl ?_ ?_ h.glen ?_ ?_ ?_ h.dis (fun j hj => (h.stk j hj).upd hu ns) h.cut ?_ ?_ h.own, hu⟩
 ·exact hu.heap h.box (fun hm => by rw [List.mem_singleton] at hm; subst hm; exact absurd (typ_ne h.box hq) (by decide))
 ·exact row_upd h.frow hu (row_off h.frow hq (by decide))
 ·show World.ownsRow _ B _ 2 X.ov (S.objs.set r _).length (obcells (S.objs.set r _) X.os)
  rw [obcells_set _ _ _ (⟨(S.objs.getD r default).cls, (S.objs.getD r default).vals.set i v⟩ : Ob) rfl, List.length_set]
  exact row_upd h.orow hu (row_off h.orow hq (by decide))
 ·exact h.loc.upd hu (fun b hb hm => by rw [List.mem_singleton] at hm; subst hm; exact h.dis _ hb hvb)
 ·show Rows _ _ B X.os ((S.objs.set r _).map Ob.vals)
  rw [List.map_set]
  exact hset
 ·exact inp_off h.inp hu hq (by decide)
 ·exact row_upd h.out hu (row_off h.out hq (by decide))
/-- The frame on top is taken off: its row's length is written into the box. -/
theorem MAt.popFrm (h : MAt B w U R mb ib p S X) {f : Fm} {below : List Fm} {g : FmV} {gb : List FmV} {fb c : Nat} {S' : Mc} (hf : S.frs = f :: below) (hg : X.gs = g :: gb) (hfv : X.fv = .slice (some ⟨fb, 0, none⟩) (below.length + 1) c) (hu : Upd [mb] w w')
  (hS : S' = { S with frs := below }) (hb : w'.heap[mb]? = some (.cells (mccells ib S' { X with fv := .slice (some ⟨fb, 0, none⟩) below.length c, gs := gb }) 78)) :
  MAt B w' U R mb ib p S' { X with fv := .slice (some ⟨fb, 0, none⟩) below.length c, gs := gb } := by
 subst hS
 have hgl : gb.length = below.length := by have := h.glen; rw [hf, hg] at this; simpa using this
 have hsub : ∀ b ∈ blks (gb.map FmV.lv), b ∈ blks (X.gs.map FmV.lv) := fun b hb => by
  unfold blks at hb ⊢
  rw [hg, List.map_cons, List.filterMap_cons]
  split
  ·exact hb
  ·exact List.mem_cons_of_mem _ hb
 have hloc := h.loc
 rw [hf, hg, List.map_cons, List.map_cons] at hloc
 refine h.turn hu (by simp [h.mine]) rfl rfl hb ?_ hgl ?_ ?_ ?_ ?_ ?_ ?_ ?_ ?_ ?_
 ·have hrow := h.frow
  rw [hf, hg, hfv, List.reverse_cons, List.reverse_cons, fmcells_snoc _ _ _ _ (by simp [hgl])] at hrow
  have hfl := fmcells_len below.reverse gb.reverse (by simp [hgl])
  rw [List.length_reverse] at hfl
  show World.ownsRow _ B _ 4 (.slice (some ⟨fb, 0, none⟩) below.length c) below.length (fmcells below.reverse gb.reverse)
  refine row_upd (w := w) ?_ hu ?_
  ·refine ⟨by rw [hfl], ?_⟩
   rcases hrow.2 with ⟨h1, _⟩ | ⟨g1, c1, cur, h1, h2, h3, h4, h5, h6, h7⟩
   ·cases h1
   ·injection h1 with e1 _ e3
    injection e1 with e1
    injection e1 with e1
    subst e1 e3
    have h4' : below.length + 1 ≤ c := h4
    have h7' : cur.toList.take ((below.length + 1) * 4) = fmcells below.reverse gb.reverse ++ [.int .i64 f.m, .int .i64 f.pc, g.lv, g.sv] := h7
    refine .inr ⟨fb, c, cur, rfl, h2, h3, by omega, h5, h6, ?_⟩
    have h8 := congrArg (List.take (below.length * 4)) h7'
    rw [List.take_take, Nat.min_eq_left (by omega), List.take_append_of_le_length (by omega), List.take_of_length_le (l := fmcells below.reverse gb.reverse) (by omega)] at h8
    exact h8
  ·have := row_off h.frow h.box (by decide)
   rw [hfv] at this
   exact this
 ·exact row_upd h.orow hu (row_off h.orow h.box (by decide))
 ·exact hloc.tail.upd hu (fun b hb => rows_off h.loc h.box (by decide) b (hsub b hb))
 ·exact h.val.upd hu (rows_off h.val h.box (by decide))
 ·exact fun b hb => h.dis b (hsub b hb)
 ·intro i hi
  have h1 := (h.stk (i + 1) (by rw [hf]; show i + 1 < below.length + 1; have : i < below.length := hi; omega)).upd hu (nost_of h.box (by decide))
  have e : X.gs.getD (i + 1) default = gb.getD i default := by rw [hg]; rfl
  rw [hf, e] at h1
  exact h1.sub (fun _ h => h) (fun b _ hb => hsub b hb) (fun _ _ h => h)
 ·intro i h0 hi
  have h1 := h.cut (i + 1) (by omega) (by rw [hf]; show i + 1 < below.length + 1; have : i < below.length := hi; omega)
  have e : X.gs.getD (i + 1) default = gb.getD i default := by rw [hg]; rfl
  rw [hf, e] at h1
  exact h1
 ·exact inp_off h.inp hu h.box (by decide)
 ·exact row_upd h.out hu (row_off h.out h.box (by decide))
 ·intro b hb
  rcases hb with hb | hb | hb | hb | hb
  ·refine h.own b (.inl ?_)
   rw [hfv]
   exact hb
  ·exact h.own b (.inr (.inl hb))
  ·exact h.own b (.inr (.inr (.inl hb)))
  ·exact h.own b (.inr (.inr (.inr (.inl (hsub b hb)))))
  ·exact h.own b (.inr (.inr (.inr (.inr hb))))
theorem news_same {w w1 w2 : World} (h : w2.heap.size = w1.heap.size) : news w w2 = news w w1 := by
 unfold news
 rw [h]
theorem news_app {w w1 w2 : World} (h1 : w.heap.size ≤ w1.heap.size) (h2 : w1.heap.size ≤ w2.heap.size) : news w w2 = news w w1 ++ news w1 w2 := by
 unfold news
 obtain ⟨a, ha⟩ : ∃ a, w1.heap.size = w.heap.size + a := ⟨w1.heap.size - w.heap.size, by omega⟩
 obtain ⟨b, hb⟩ : ∃ b, w2.heap.size = w.heap.size + a + b := ⟨w2.heap.size - (w.heap.size + a), by omega⟩
 rw [ha, hb, show w.heap.size + a + b - w.heap.size = a + b by omega, show w.heap.size + a - w.heap.size = a by omega, show w.heap.size + a + b - (w.heap.size + a) = b by omega]
 have := List.range'_append (s := w.heap.size) (m := a) (n := b) (step := 1)
 rw [Nat.one_mul] at this
 exact this.symm
theorem news_self (w : World) : news w w = [] := by
 unfold news
 rw [Nat.sub_self]
 rfl
theorem size_set (w : World) (a : Addr) (v : Value) : (w.setCell a v).heap.size = w.heap.size := by simp [World.setCell]
/-- A draw changes nothing. -/
theorem MAt.drew (h : MAt B w U R mb ib p S X) : MAt B w.drew U R mb ib p S X :=
 h.keep (T := []) ((Upd.refl [] w).drew) (by simp) (fun b hb => .inl hb) (fun b hb => hb)
/-- The machine's own blocks are written, and blocks are made. -/
theorem MAt.turnN (h : MAt B w U R mb ib p S X) {S' : Mc} {X' : MX} {T : List Nat} (hu : Upd T w w') (hT : ∀ b ∈ T, b ∈ R) (hcv : X'.cv = X.cv) (hmv : X'.mv = X.mv)
  (box : w'.heap[mb]? = some (.cells (mccells ib S' X') 78))
  (frow : w'.ownsRow B 82 4 X'.fv S'.frs.length (fmcells S'.frs.reverse X'.gs.reverse))
  (glen : X'.gs.length = S'.frs.length)
  (orow : w'.ownsRow B 120 2 X'.ov S'.objs.length (obcells S'.objs X'.os))
  (loc : Rows 85 w' B (X'.gs.map FmV.lv) (S'.frs.map Fm.loc))
  (val : Rows 85 w' B X'.os (S'.objs.map Ob.vals))
  (dis : ∀ b ∈ blks (X'.gs.map FmV.lv), b ∉ blks X'.os)
  (stk : ∀ i, i < S'.frs.length → StV w' (R ++ news w w') (blks (X'.gs.map FmV.lv)) (blks X'.os) (X'.gs.getD i default).sv (S'.frs.getD i default).stk)
  (cut : ∀ i, 0 < i → i < S'.frs.length → ∃ p, (X'.gs.getD i default).sv = .slice p (S'.frs.getD i default).stk.length (S'.frs.getD i default).stk.length)
  (inp : ∃ b o, LngV w' X'.iv b o S'.inp ∧ (S'.inp ≠ [] → b ∈ R ++ news w w' ∧ X'.uv.ownBlock ≠ some b ∧ ∃ c, w'.heap[b]? = some (.cells c 2)))
  (out : w'.ownsRow B 2 1 X'.uv S'.out.length (S'.out.map (.int .i64)))
  (own : ∀ b, (X'.fv.ownBlock = some b ∨ X'.ov.ownBlock = some b ∨ X'.uv.ownBlock = some b ∨ b ∈ blks (X'.gs.map FmV.lv) ∨ b ∈ blks X'.os) → b ∈ R ++ news w w') : MAt B w' (U ++ news w w') (R ++ news w w') mb ib p S' X' := by
 have hU : ∀ b ∈ U ++ news w w', b ∈ U ∨ w.heap.size ≤ b := fun b hb => (List.mem_append.1 hb).imp_right fun hb => (mem_news.1 hb).1
 have hr := offs_reads (U' := U ++ news w w') hu (fun b hb => h.sub b (hT b hb)) hU
 have hB : B ≤ w.heap.size := Nat.le_of_lt (Nat.lt_of_le_of_lt (h.low mb h.mine).1 (h.low mb h.mine).2)
 refine ⟨box, fun b hb => ?_, fun b hb => ?_, by rw [hcv]; exact h.cls.reads hr, by rw [hmv]; exact h.mth.reads hr, frow, glen, orow, loc, val, dis, stk, cut, inp, out, List.mem_append.2 (.inl h.mine), own⟩
 ·rcases List.mem_append.1 hb with h1 | h1
  ·exact List.mem_append.2 (.inl (h.sub b h1))
  ·exact List.mem_append.2 (.inr h1)
 ·rcases List.mem_append.1 hb with h1 | h1
  ·exact ⟨(h.low b h1).1, Nat.lt_of_lt_of_le (h.low b h1).2 hu.size⟩
  ·have := mem_news.1 h1
   omega
/-- A row that grows, or goes to a new block. -/
theorem grown_own {v' : Value} {ob : Option Nat} {b : Nat} {e : TypeId} {sz n : Nat} {xs : List Value} (hown : w'.ownsRow B e sz v' n xs) (hat : v'.ownBlock = ob ∨ v'.ownBlock = some w.heap.size) (hob : ∀ b, ob = some b → b ∈ R) (hb : v'.ownBlock = some b) : b ∈ R ++ news w w' := by
 rcases hat with h1 | h1
 ·exact List.mem_append.2 (.inl (hob b (h1.symm.trans hb)))
 ·have h2 := h1.symm.trans hb
  injection h2 with h2
  subst h2
  exact List.mem_append.2 (.inr (mem_news.2 ⟨Nat.le_refl _, (World.ownsRow.lt hown _ hb).2⟩))
/-- A frame is laid on the others: the row has grown, the box is written. -/
theorem MAt.pushFrm (h : MAt B w U R mb ib p S X) {w2 : World} {f : Fm} {lv fv' : Value} (hcut : ∀ f0 below, S.frs = f0 :: below → ∃ p, (X.gs.getD 0 default).sv = .slice p f0.stk.length f0.stk.length) (hs : f.stk = [])
  (hlv : OwnV 85 w B lv f.loc) (hlb : ∀ b, lv.ownBlock = some b → b ∈ R ∧ b ∉ blks (X.gs.map FmV.lv) ∧ b ∉ blks X.os ∧ ∀ i, i < S.frs.length → ∀ q, VlV w (X.gs.getD i default).sv q 0 (S.frs.getD i default).stk → (S.frs.getD i default).stk ≠ [] → q ≠ b)
  (hown : w2.ownsRow B 82 4 fv' (S.frs.length + 1) (fmcells S.frs.reverse X.gs.reverse ++ [.int .i64 f.m, .int .i64 f.pc, lv, .slice none 0 0])) (hgr : w.grownBy w2 X.fv.ownBlock) (hat : fv'.ownBlock = X.fv.ownBlock ∨ fv'.ownBlock = some w.heap.size) :
  MAt B (w2.setCell ⟨mb, 5, none⟩ fv') (U ++ news w (w2.setCell ⟨mb, 5, none⟩ fv')) (R ++ news w (w2.setCell ⟨mb, 5, none⟩ fv')) mb ib p { S with frs := f :: S.frs } { X with fv := fv', gs := ⟨lv, .slice none 0 0⟩ :: X.gs } ∧ Upd (X.fv.ownBlock.toList ++ [mb]) w (w2.setCell ⟨mb, 5, none⟩ fv') := by
 have hu2 : Upd X.fv.ownBlock.toList w w2 := (Upd.refl _ w).grown hgr (fun q hq => Or.inl (Option.mem_toList.2 hq))
 have hb2 : w2.heap[mb]? = some (.cells (mccells ib S X) 78) := hu2.heap h.box (fun hm => own_heap_ne h.frow h.box (by decide) (Option.mem_toList.1 hm))
 have hst : Upd [mb] w2 (w2.setCell ⟨mb, 5, none⟩ fv') := (Upd.refl [mb] w2).setCell (.inl (by simp)) _
 have hu : Upd (X.fv.ownBlock.toList ++ [mb]) w (w2.setCell ⟨mb, 5, none⟩ fv') := (hu2.mono (T := X.fv.ownBlock.toList ++ [mb]) (fun i hi _ => List.mem_append.2 (.inl hi))).trans' hst (fun q hq _ => List.mem_append.2 (.inr hq))
 have hoff : ∀ b, b ∈ X.fv.ownBlock.toList ++ [mb] → X.fv.ownBlock = some b ∨ b = mb := fun b hb => by
  rcases List.mem_append.1 hb with h1 | h1
  ·exact .inl (Option.mem_toList.1 h1)
  ·rw [List.mem_singleton] at h1; exact .inr h1
 have hty : ∀ b, b ∈ X.fv.ownBlock.toList ++ [mb] → ∃ c t, w.heap[b]? = some (.cells c t) ∧ t ≠ 85 ∧ t ≠ 120 ∧ t ≠ 2 := fun b hb => by
  rcases hoff b hb with h1 | rfl
  ·obtain ⟨c, hc⟩ := own_typ h.frow h1
   exact ⟨c, _, hc, by decide, by decide, by decide⟩
  ·exact ⟨_, _, h.box, by decide, by decide, by decide⟩
 have offr : ∀ {e : TypeId} {sz n : Nat} {v : Value} {xs : List Value}, w.ownsRow B e sz v n xs → (e = 85 ∨ e = 120 ∨ e = 2) → ∀ k, v.ownBlock = some k → k ∉ X.fv.ownBlock.toList ++ [mb] := fun ho he k hk hm => by
  obtain ⟨c, t, hc, h1, h2, h3⟩ := hty k hm
  obtain ⟨c', hc'⟩ := own_typ ho hk
  have := typ_ne hc' hc
  subst this
  rcases he with rfl | rfl | rfl
  ·exact h1 rfl
  ·exact h2 rfl
  ·exact h3 rfl
 have offs : ∀ {vs : List Value} {xss : List (List Vl)}, Rows 85 w B vs xss → ∀ b ∈ blks vs, b ∉ X.fv.ownBlock.toList ++ [mb] := fun hr b hb hm => by
  obtain ⟨c, t, hc, h1, _⟩ := hty b hm
  obtain ⟨c', hc'⟩ := hr.typ b hb
  exact h1 (typ_ne hc' hc).symm
 have hmb : ∀ k, lv.ownBlock = some k → k ∉ X.fv.ownBlock.toList ++ [mb] := offr hlv (.inl rfl)
 have ebl : blks (({ X with fv := fv', gs := ⟨lv, .slice none 0 0⟩ :: X.gs } : MX).gs.map FmV.lv) = lv.ownBlock.toList ++ blks (X.gs.map FmV.lv) := by
  show blks (lv :: X.gs.map FmV.lv) = _
  unfold blks
  rw [List.filterMap_cons]
  cases lv.ownBlock <;> rfl
 have hfb : ∀ b, fv'.ownBlock = some b → b ∈ R ++ news w (w2.setCell ⟨mb, 5, none⟩ fv') := fun b hb => by
  rw [news_same (size_set w2 _ _)]
  exact grown_own (R := R) hown hat (fun b hb => h.own b (.inl hb)) hb
 refine ⟨h.turnN hu (fun b hb => ?_) rfl rfl ?_ ?_ ?_ ?_ ?_ ?_ ?_ ?_ ?_ ?_ ?_ ?_, hu⟩
 ·rcases hoff b hb with h1 | rfl
  ·exact h.own b (.inl h1)
  ·exact h.mine
 ·exact heap_setCell hb2 5 fv'
 ·show World.ownsRow _ B _ 4 fv' (f :: S.frs).length (fmcells (f :: S.frs).reverse ((⟨lv, .slice none 0 0⟩ : FmV) :: X.gs).reverse)
  rw [List.reverse_cons, List.reverse_cons, fmcells_snoc _ _ _ _ (by simp [h.glen])]
  refine row_upd hown hst (fun k hk hm => ?_)
  rw [List.mem_singleton] at hm
  subst hm
  obtain ⟨c, hc⟩ := own_typ hown hk
  exact absurd (typ_ne hc hb2) (by decide)
 ·show X.gs.length + 1 = S.frs.length + 1
  rw [h.glen]
 ·exact row_upd h.orow hu (offr h.orow (.inr (.inl rfl)))
 ·exact (h.loc.upd hu (offs h.loc)).cons (hlv.upd hu hmb) (fun b hb => (hlb b hb).2.1)
 ·exact h.val.upd hu (offs h.val)
 ·intro b hb
  rw [ebl] at hb
  rcases List.mem_append.1 hb with h1 | h1
  ·exact (hlb b (Option.mem_toList.1 h1)).2.2.1
  ·exact h.dis b h1
 ·intro i hi
  rw [ebl]
  have hns : NoSt w R (blks (X.gs.map FmV.lv)) (blks X.os) (X.fv.ownBlock.toList ++ [mb]) := fun b hb _ => by
   obtain ⟨c, t, hc, h1, _⟩ := hty b hb
   exact .inr (.inr fun c' hc' => h1 (typ_ne hc hc'))
  match i with
  | 0 =>
   show StV _ _ _ _ (.slice none 0 0) f.stk
   rw [hs]
   exact ⟨⟨0, ⟨⟨none, 0, rfl, fun h => absurd rfl h⟩, by simp⟩, fun h => absurd rfl h⟩, ⟨none, 0, rfl, Nat.le_refl _, by unfold maxLen; omega, fun _ => rfl⟩⟩
  | i + 1 =>
   have hi2 : i < S.frs.length := by simpa using hi
   have h1 := h.stk i hi2
   have h2 := h1.upd hu hns
   show StV _ _ _ _ (X.gs.getD i default).sv (S.frs.getD i default).stk
   obtain ⟨q, h3, h4⟩ := h1.read
   obtain ⟨q2, h5, h6⟩ := h2.read
   refine ⟨?_, h2.form⟩
   by_cases hne : (S.frs.getD i default).stk = []
   ·exact ⟨q2, h5, fun h => absurd hne h⟩
   ·obtain ⟨h7, h8, h9, c, h10⟩ := h4 hne
    have hq : q ∉ X.fv.ownBlock.toList ++ [mb] := fun hm => by
     obtain ⟨c', t, hc, h11, _⟩ := hty q hm
     exact h11 (typ_ne hc h10)
    refine ⟨q, h3.upd hu (.inr hq), fun _ => ⟨List.mem_append.2 (.inl h7), fun hm => ?_, h9, c, hu.heap h10 hq⟩⟩
    rcases List.mem_append.1 hm with h12 | h12
    ·exact (hlb q (Option.mem_toList.1 h12)).2.2.2 i hi2 q h3 hne rfl
    ·exact h8 h12
 ·intro i h0 hi
  obtain ⟨j, rfl⟩ : ∃ j, i = j + 1 := ⟨i - 1, by omega⟩
  show ∃ p, (X.gs.getD j default).sv = .slice p (S.frs.getD j default).stk.length (S.frs.getD j default).stk.length
  by_cases hj : j = 0
  ·subst hj
   obtain ⟨f0, below, hf0⟩ := List.exists_cons_of_ne_nil (show S.frs ≠ [] from fun e => by rw [e] at hi; simp at hi)
   obtain ⟨p, hp⟩ := hcut f0 below hf0
   exact ⟨p, by rw [hp, hf0]; rfl⟩
  ·exact h.cut j (by omega) (by simpa using hi)
 ·obtain ⟨b, o, h1, h2⟩ := h.inp
  refine ⟨b, o, h1.upd hu ?_, fun hne => ?_⟩
  ·by_cases e : S.inp = []
   ·exact .inl e
   ·obtain ⟨_, _, c, h4⟩ := h2 e
    exact .inr fun hm => by
     obtain ⟨c', t, hc, _, _, h11⟩ := hty b hm
     exact h11 (typ_ne hc h4)
  ·obtain ⟨h3, h4, c, h5⟩ := h2 hne
   refine ⟨List.mem_append.2 (.inl h3), h4, c, hu.heap h5 fun hm => ?_⟩
   obtain ⟨c', t, hc, _, _, h11⟩ := hty b hm
   exact h11 (typ_ne hc h5)
 ·exact row_upd h.out hu (offr h.out (.inr (.inr rfl)))
 ·intro b hb
  rw [ebl] at hb
  rcases hb with hb | hb | hb | hb | hb
  ·exact hfb b hb
  ·exact List.mem_append.2 (.inl (h.own b (.inr (.inl hb))))
  ·exact List.mem_append.2 (.inl (h.own b (.inr (.inr (.inl hb)))))
  ·rcases List.mem_append.1 hb with h1 | h1
   ·exact List.mem_append.2 (.inl (hlb b (Option.mem_toList.1 h1)).1)
   ·exact List.mem_append.2 (.inl (h.own b (.inr (.inr (.inr (.inl h1))))))
  ·exact List.mem_append.2 (.inl (h.own b (.inr (.inr (.inr (.inr hb))))))
end
end Go.Proofs.YtojobkhidlfeoaaDoor

/-! A machine in memory: an object more, an output more. -/
namespace Go.Proofs.YtojobkhidlfeoaaDoor
open Go.RowKit

section
variable {B : Nat} {w w' : World} {U R : List Nat} {mb ib : Nat} {p : Prg} {S : Mc} {X : MX}
/-- An object more: the row has grown, the box is written. -/
theorem MAt.pushObj (h : MAt B w U R mb ib p S X) {w2 : World} {o : Ob} {v ov' : Value}
  (hv : OwnV 85 w B v o.vals) (hvb : ∀ b, v.ownBlock = some b → b ∈ R ∧ b ∉ blks (X.gs.map FmV.lv) ∧ b ∉ blks X.os ∧ ∀ i, i < S.frs.length → ∀ q, VlV w (X.gs.getD i default).sv q 0 (S.frs.getD i default).stk → (S.frs.getD i default).stk ≠ [] → q ≠ b)
  (hown : w2.ownsRow B 120 2 ov' (S.objs.length + 1) (obcells S.objs X.os ++ [.int .i64 o.cls, v])) (hgr : w.grownBy w2 X.ov.ownBlock) (hat : ov'.ownBlock = X.ov.ownBlock ∨ ov'.ownBlock = some w.heap.size) :
  MAt B (w2.setCell ⟨mb, 6, none⟩ ov') (U ++ news w (w2.setCell ⟨mb, 6, none⟩ ov')) (R ++ news w (w2.setCell ⟨mb, 6, none⟩ ov')) mb ib p { S with objs := S.objs ++ [o] } { X with ov := ov', os := X.os ++ [v] } ∧ Upd (X.ov.ownBlock.toList ++ [mb]) w (w2.setCell ⟨mb, 6, none⟩ ov') := by
 have hu2 : Upd X.ov.ownBlock.toList w w2 := (Upd.refl _ w).grown hgr (fun q hq => Or.inl (Option.mem_toList.2 hq))
 have hb2 : w2.heap[mb]? = some (.cells (mccells ib S X) 78) := hu2.heap h.box (fun hm => own_heap_ne h.orow h.box (by decide) (Option.mem_toList.1 hm))
 have hst : Upd [mb] w2 (w2.setCell ⟨mb, 6, none⟩ ov') := (Upd.refl [mb] w2).setCell (.inl (by simp)) _
 have hu : Upd (X.ov.ownBlock.toList ++ [mb]) w (w2.setCell ⟨mb, 6, none⟩ ov') := (hu2.mono (T := X.ov.ownBlock.toList ++ [mb]) (fun i hi _ => List.mem_append.2 (.inl hi))).trans' hst (fun q hq _ => List.mem_append.2 (.inr hq))
 have hoff : ∀ b, b ∈ X.ov.ownBlock.toList ++ [mb] → X.ov.ownBlock = some b ∨ b = mb := fun b hb => by
  rcases List.mem_append.1 hb with h1 | h1
  ·exact .inl (Option.mem_toList.1 h1)
  ·rw [List.mem_singleton] at h1; exact .inr h1
 have hty : ∀ b, b ∈ X.ov.ownBlock.toList ++ [mb] → ∃ c t, w.heap[b]? = some (.cells c t) ∧ t ≠ 85 ∧ t ≠ 82 ∧ t ≠ 2 := fun b hb => by
  rcases hoff b hb with h1 | rfl
  ·obtain ⟨c, hc⟩ := own_typ h.orow h1
   exact ⟨c, _, hc, by decide, by decide, by decide⟩
  ·exact ⟨_, _, h.box, by decide, by decide, by decide⟩
 have offr : ∀ {e : TypeId} {sz n : Nat} {v : Value} {xs : List Value}, w.ownsRow B e sz v n xs → (e = 85 ∨ e = 82 ∨ e = 2) → ∀ k, v.ownBlock = some k → k ∉ X.ov.ownBlock.toList ++ [mb] := fun ho e k hk hm => by
  obtain ⟨c, t, hc, h1, h2, h3⟩ := hty k hm
  obtain ⟨c', hc'⟩ := own_typ ho hk
  have := typ_ne hc' hc
  subst this
  rcases e with rfl | rfl | rfl
  ·exact h1 rfl
  ·exact h2 rfl
  ·exact h3 rfl
 have offs : ∀ {vs : List Value} {xss : List (List Vl)}, Rows 85 w B vs xss → ∀ b ∈ blks vs, b ∉ X.ov.ownBlock.toList ++ [mb] := fun hr b hb hm => by
  obtain ⟨c, t, hc, h1, _⟩ := hty b hm
  obtain ⟨c', hc'⟩ := hr.typ b hb
  exact h1 (typ_ne hc' hc).symm
 have hmb : ∀ k, v.ownBlock = some k → k ∉ X.ov.ownBlock.toList ++ [mb] := offr hv (.inl rfl)
 have hob : ∀ b, ov'.ownBlock = some b → b ∈ R ++ news w (w2.setCell ⟨mb, 6, none⟩ ov') := fun b hb => by
  rw [news_same (size_set w2 _ _)]
  exact grown_own (R := R) hown hat (fun b hb => h.own b (.inr (.inl hb))) hb
 have hol : X.os.length = S.objs.length := by have := h.val.len; simpa using this
 refine ⟨h.turnN hu (fun b hb => ?_) rfl rfl ?_ ?_ ?_ ?_ ?_ ?_ ?_ ?_ h.cut ?_ ?_ ?_, hu⟩
 ·rcases hoff b hb with h1 | rfl
  ·exact h.own b (.inr (.inl h1))
  ·exact h.mine
 ·exact heap_setCell hb2 6 ov'
 ·exact row_upd h.frow hu (offr h.frow (.inr (.inl rfl)))
 ·exact h.glen
 ·show World.ownsRow _ B _ 2 ov' (S.objs ++ [o]).length (obcells (S.objs ++ [o]) (X.os ++ [v]))
  rw [obcells_snoc _ _ _ _ hol, List.length_append]
  refine row_upd hown hst (fun k hk hm => ?_)
  rw [List.mem_singleton] at hm
  subst hm
  obtain ⟨c, hc⟩ := own_typ hown hk
  exact absurd (typ_ne hc hb2) (by decide)
 ·exact h.loc.upd hu (offs h.loc)
 ·show Rows _ _ B (X.os ++ [v]) ((S.objs ++ [o]).map Ob.vals)
  rw [List.map_append]
  exact (h.val.upd hu (offs h.val)).snoc (hv.upd hu hmb) (fun b hb => (hvb b hb).2.2.1)
 ·intro b hb hm
  rw [show blks ({ X with ov := ov', os := X.os ++ [v] } : MX).os = blks (X.os ++ [v]) from rfl, blks_snoc] at hm
  rcases List.mem_append.1 hm with h1 | h1
  ·exact h.dis b hb h1
  ·exact (hvb b (Option.mem_toList.1 h1)).2.1 hb
 ·intro i hi
  have hns : NoSt w R (blks (X.gs.map FmV.lv)) (blks X.os) (X.ov.ownBlock.toList ++ [mb]) := fun b hb _ => by
   obtain ⟨c, t, hc, h1, _⟩ := hty b hb
   exact .inr (.inr fun c' hc' => h1 (typ_ne hc hc'))
  have h1 := h.stk i hi
  have h2 := h1.upd hu hns
  show StV _ _ _ (blks (X.os ++ [v])) (X.gs.getD i default).sv (S.frs.getD i default).stk
  rw [blks_snoc]
  obtain ⟨q, h3, h4⟩ := h1.read
  obtain ⟨q2, h5, h6⟩ := h2.read
  refine ⟨?_, h2.form⟩
  by_cases hne : (S.frs.getD i default).stk = []
  ·exact ⟨q2, h5, fun h => absurd hne h⟩
  ·obtain ⟨h7, h8, h9, c, h10⟩ := h4 hne
   have hq : q ∉ X.ov.ownBlock.toList ++ [mb] := fun hm => by
    obtain ⟨c', t, hc, h11, _⟩ := hty q hm
    exact h11 (typ_ne hc h10)
   refine ⟨q, h3.upd hu (.inr hq), fun _ => ⟨List.mem_append.2 (.inl h7), h8, fun hm => ?_, c, hu.heap h10 hq⟩⟩
   rcases List.mem_append.1 hm with h12 | h12
   ·exact h9 h12
   ·exact (hvb q (Option.mem_toList.1 h12)).2.2.2 i hi q h3 hne rfl
 ·obtain ⟨b, o, h1, h2⟩ := h.inp
  refine ⟨b, o, h1.upd hu ?_, fun hne => ?_⟩
  ·by_cases e : S.inp = []
   ·exact .inl e
   ·obtain ⟨_, _, c, h4⟩ := h2 e
    exact .inr fun hm => by
     obtain ⟨c', t, hc, _, _, h11⟩ := hty b hm
     exact h11 (typ_ne hc h4)
  ·obtain ⟨h3, h4, c, h5⟩ := h2 hne
   refine ⟨List.mem_append.2 (.inl h3), h4, c, hu.heap h5 fun hm => ?_⟩
   obtain ⟨c', t, hc, _, _, h11⟩ := hty b hm
   exact h11 (typ_ne hc h5)
 ·exact row_upd h.out hu (offr h.out (.inr (.inr rfl)))
 ·intro b hb
  rcases hb with hb | hb | hb | hb | hb
  ·exact List.mem_append.2 (.inl (h.own b (.inl hb)))
  ·exact hob b hb
  ·exact List.mem_append.2 (.inl (h.own b (.inr (.inr (.inl hb)))))
  ·exact List.mem_append.2 (.inl (h.own b (.inr (.inr (.inr (.inl hb))))))
  ·rw [show blks ({ X with ov := ov', os := X.os ++ [v] } : MX).os = blks (X.os ++ [v]) from rfl, blks_snoc] at hb
   rcases List.mem_append.1 hb with h1 | h1
   ·exact List.mem_append.2 (.inl (h.own b (.inr (.inr (.inr (.inr h1))))))
   ·exact List.mem_append.2 (.inl (hvb b (Option.mem_toList.1 h1)).1)
/-- An output more: the row has grown, the box is written. -/
theorem MAt.pushOut (h : MAt B w U R mb ib p S X) {w2 : World} {n : Int} {uv' : Value}
  (hown : w2.ownsRow B 2 1 uv' (S.out.length + 1) (S.out.map (.int .i64) ++ [.int .i64 n])) (hgr : w.grownBy w2 X.uv.ownBlock) (hat : uv'.ownBlock = X.uv.ownBlock ∨ uv'.ownBlock = some w.heap.size) :
  MAt B (w2.setCell ⟨mb, 12, none⟩ uv') (U ++ news w (w2.setCell ⟨mb, 12, none⟩ uv')) (R ++ news w (w2.setCell ⟨mb, 12, none⟩ uv')) mb ib p { S with out := S.out ++ [n] } { X with uv := uv' } ∧ Upd (X.uv.ownBlock.toList ++ [mb]) w (w2.setCell ⟨mb, 12, none⟩ uv') := by
 have hu2 : Upd X.uv.ownBlock.toList w w2 := (Upd.refl _ w).grown hgr (fun q hq => Or.inl (Option.mem_toList.2 hq))
 have hb2 : w2.heap[mb]? = some (.cells (mccells ib S X) 78) := hu2.heap h.box (fun hm => own_heap_ne h.out h.box (by decide) (Option.mem_toList.1 hm))
 have hst : Upd [mb] w2 (w2.setCell ⟨mb, 12, none⟩ uv') := (Upd.refl [mb] w2).setCell (.inl (by simp)) _
 have hu : Upd (X.uv.ownBlock.toList ++ [mb]) w (w2.setCell ⟨mb, 12, none⟩ uv') := (hu2.mono (T := X.uv.ownBlock.toList ++ [mb]) (fun i hi _ => List.mem_append.2 (.inl hi))).trans' hst (fun q hq _ => List.mem_append.2 (.inr hq))
 have hoff : ∀ b, b ∈ X.uv.ownBlock.toList ++ [mb] → X.uv.ownBlock = some b ∨ b = mb := fun b hb => by
  rcases List.mem_append.1 hb with h1 | h1
  ·exact .inl (Option.mem_toList.1 h1)
  ·rw [List.mem_singleton] at h1; exact .inr h1
 have hty : ∀ b, b ∈ X.uv.ownBlock.toList ++ [mb] → ∃ c t, w.heap[b]? = some (.cells c t) ∧ t ≠ 85 ∧ t ≠ 82 ∧ t ≠ 120 := fun b hb => by
  rcases hoff b hb with h1 | rfl
  ·obtain ⟨c, hc⟩ := own_typ h.out h1
   exact ⟨c, _, hc, by decide, by decide, by decide⟩
  ·exact ⟨_, _, h.box, by decide, by decide, by decide⟩
 have offr : ∀ {e : TypeId} {sz n : Nat} {v : Value} {xs : List Value}, w.ownsRow B e sz v n xs → (e = 85 ∨ e = 82 ∨ e = 120) → ∀ k, v.ownBlock = some k → k ∉ X.uv.ownBlock.toList ++ [mb] := fun ho e k hk hm => by
  obtain ⟨c, t, hc, h1, h2, h3⟩ := hty k hm
  obtain ⟨c', hc'⟩ := own_typ ho hk
  have := typ_ne hc' hc
  subst this
  rcases e with rfl | rfl | rfl
  ·exact h1 rfl
  ·exact h2 rfl
  ·exact h3 rfl
 have offs : ∀ {vs : List Value} {xss : List (List Vl)}, Rows 85 w B vs xss → ∀ b ∈ blks vs, b ∉ X.uv.ownBlock.toList ++ [mb] := fun hr b hb hm => by
  obtain ⟨c, t, hc, h1, _⟩ := hty b hm
  obtain ⟨c', hc'⟩ := hr.typ b hb
  exact h1 (typ_ne hc' hc).symm
 have hub : ∀ b, uv'.ownBlock = some b → b ∈ R ++ news w (w2.setCell ⟨mb, 12, none⟩ uv') := fun b hb => by
  rw [news_same (size_set w2 _ _)]
  exact grown_own (R := R) hown hat (fun b hb => h.own b (.inr (.inr (.inl hb)))) hb
 refine ⟨h.turnN hu (fun b hb => ?_) rfl rfl ?_ ?_ h.glen ?_ ?_ ?_ h.dis ?_ h.cut ?_ ?_ ?_, hu⟩
 ·rcases hoff b hb with h1 | rfl
  ·exact h.own b (.inr (.inr (.inl h1)))
  ·exact h.mine
 ·exact heap_setCell hb2 12 uv'
 ·exact row_upd h.frow hu (offr h.frow (.inr (.inl rfl)))
 ·exact row_upd h.orow hu (offr h.orow (.inr (.inr rfl)))
 ·exact h.loc.upd hu (offs h.loc)
 ·exact h.val.upd hu (offs h.val)
 ·intro i hi
  have hns : NoSt w R (blks (X.gs.map FmV.lv)) (blks X.os) (X.uv.ownBlock.toList ++ [mb]) := fun b hb _ => by
   obtain ⟨c, t, hc, h1, _⟩ := hty b hb
   exact .inr (.inr fun c' hc' => h1 (typ_ne hc hc'))
  exact ((h.stk i hi).upd hu hns).sub (fun b hb => List.mem_append.2 (.inl hb)) (fun _ _ h => h) (fun _ _ h => h)
 ·obtain ⟨b, o, h1, h2⟩ := h.inp
  have hq : S.inp ≠ [] → b ∉ X.uv.ownBlock.toList ++ [mb] := fun e hm => by
   obtain ⟨h3, h4, c, h5⟩ := h2 e
   rcases hoff b hm with h6 | rfl
   ·exact h4 h6
   ·exact absurd (typ_ne h5 h.box) (by decide)
  refine ⟨b, o, h1.upd hu ?_, fun hne => ?_⟩
  ·by_cases e : S.inp = []
   ·exact .inl e
   ·exact .inr (hq e)
  ·obtain ⟨h3, h4, c, h5⟩ := h2 hne
   refine ⟨List.mem_append.2 (.inl h3), fun hm => ?_, c, hu.heap h5 (hq hne)⟩
   rcases hat with h6 | h6
   ·exact h4 (h6.symm.trans hm)
   ·have h7 := h6.symm.trans hm
    injection h7 with h7
    have := (h.low b h3).2
    omega
 ·show World.ownsRow _ B _ 1 uv' (S.out ++ [n]).length ((S.out ++ [n]).map (.int .i64))
  rw [List.length_append, List.map_append]
  refine row_upd hown hst (fun k hk hm => ?_)
  rw [List.mem_singleton] at hm
  subst hm
  obtain ⟨c, hc⟩ := own_typ hown hk
  exact absurd (typ_ne hc hb2) (by decide)
 ·intro b hb
  rcases hb with hb | hb | hb | hb | hb
  ·exact List.mem_append.2 (.inl (h.own b (.inl hb)))
  ·exact List.mem_append.2 (.inl (h.own b (.inr (.inl hb))))
  ·exact hub b hb
  ·exact List.mem_append.2 (.inl (h.own b (.inr (.inr (.inr (.inl hb))))))
  ·exact List.mem_append.2 (.inl (h.own b (.inr (.inr (.inr (.inr hb))))))
end
end Go.Proofs.YtojobkhidlfeoaaDoor
